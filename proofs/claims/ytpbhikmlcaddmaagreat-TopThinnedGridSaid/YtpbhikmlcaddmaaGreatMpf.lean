/- Texts SdFc SdFd SdFe SdW SdFf TpA, joined; what is not needed is left out. -/
import Derived.Test.YtpbhikmlcaddmaaGreatMpe
section
namespace Go.Proofs.Tryz
open Go Go.Vm Go.Sort
set_option maxRecDepth 20000
set_option maxHeartbeats 8000000
/-! Binning, walked. -/
theorem zD_len (es : List (Int × Int)) : (zD es).length = es.length := List.length_map _
theorem zD_get {es : List (Int × Int)} {j : Nat} {p : D × D} (h : (zD es)[j]? = some p) : ∃ q, es[j]? = some q ∧ p = (iD q.1, iD q.2) := by
  rw [zD, List.getElem?_map, Option.map_eq_some_iff] at h
  obtain ⟨q, h1, rfl⟩ := h
  exact ⟨q, h1, rfl⟩
theorem ev_binned (l : List Sg) (g : Gr) (f : Nat) (caps : List D) (v : Sg → Int) (hf : ∀ s ∈ l, Ev Tryz.prog f ([sgD s] ++ caps) (iD (v s))) : Ev Tryz.prog 36 [.sl 5 (l.map sgD), grD g, .fn f caps] (grE (binRes g v l)) := by
  have hlen : (l.map sgD).length = l.length := List.length_map _
  have h1 := ev_CheckS l
  have h2 := ev_checkCells g
  unfold binRes
  by_cases c0 : chkErr sgB Sg.n l = 0
  · rw [if_neg (by simpa using c0)]
    rw [c0] at h1
    obtain ⟨hl5, hall, hu⟩ := chk_zero c0
    by_cases f0 : frErr g = 0
    · rw [if_neg (by simpa using f0)]
      rw [f0] at h2
      have hF := fr_ok f0
      refine ev_of_awp tysOk mixed (fn := Tryz.f36) Tryz.func36 rfl rfl rfl ?_
      conv => whnf
      repeat' (first
        | ((with_reducible refine Split.of_true ?_); conv => whnf)
        | ((with_reducible refine Split.of_false ?_); conv => whnf)
        | ((with_reducible refine Split.neg ?_))
        | ((with_reducible refine Split.is_true ?_ ?_); decide; conv => whnf)
        | ((with_reducible refine Split.is_false ?_ ?_); decide; conv => whnf)
        | ((with_reducible refine Split.nez (fun _ => ?_) (fun _ => ?_)) <;> conv => whnf)
        | ((with_reducible refine Split.eqz (fun _ => ?_) (fun _ => ?_)) <;> conv => whnf)
        | ((with_reducible refine Split.and ?_))
        | ((with_reducible refine Split.or ?_))
        | ((with_reducible refine Split.streq (fun _ => ?_) (fun _ => ?_)) <;> conv => whnf)
        | ((with_reducible refine Split.dec (fun _ => ?_) (fun _ => ?_)) <;> conv => whnf)
        | ((with_reducible refine Split.mk (fun _ => ?_) (fun _ => ?_)) <;> conv => whnf)
        | ((with_reducible refine NilK.mk (fun _ => ?_) ?_) <;> conv => whnf)
        | ((with_reducible refine AltK.l ?_); (conv => whnf); (with_reducible refine Need.mk ?_ ?_); (first | omega | (refine ⟨?_, ?_⟩ <;> simp <;> omega) | (simp; omega)); conv => whnf)
        | ((with_reducible refine Need.mk ?_ ?_); (first | omega | rfl | decide | (refine ⟨?_, ?_⟩ <;> simp <;> omega) | (simp; omega)); conv => whnf)
        | ((with_reducible refine Wr.quo ?_ ?_ ?_ ?_); omega; omega; omega; conv => whnf)
        | ((with_reducible refine Wr.inr ?_ ?_); (first | omega | (simp; omega)); conv => whnf)
        | ((with_reducible refine Wr.inu ?_ ?_); omega; conv => whnf)
        | ((with_reducible refine AltK.l ?_); (conv => whnf); (first | (refine CallK.mk _ (h1) ?_) | (refine CallK.mk _ (h2) ?_)); conv => whnf)
        | (exfalso; first | omega | contradiction))
      refine LoopK.o2 (fun i : Nat => i ≤ l.length) (fun i => [(34, .d (.int .i64 i))]) (fun i => [(31, .map 3 3 (.int .i64) (zD (bnS g v (l.take i))))]) (fun i => l.length - i) 0 (by simp) (by refine ⟨?_, ?_, rfl⟩ <;> (repeat' (first | exact True.intro | exact rfl | refine ⟨?_, ?_⟩ | (intro h; cases h; done) | (intro h; exact h) | exact map_snoc | (refine own_congr ?_; simp; done) | (refine int_congr ?_; (first | omega | (simp; omega))) | (simp; done)))) ?_
      rintro i hi
      by_cases hil : i < l.length
      · obtain ⟨s, hs⟩ := some_of_lt hil
        have hsl := List.mem_of_getElem? hs
        have hst := bn_snoc g v hs
        have h3 := ev_cell g s hF (sg_place (hall s hsl))
        have h4 := hf s hsl
        rw [bnStep] at hst
        by_cases hc : cellI g s = -1
        · rw [if_pos hc] at hst
          rw [if_pos hc, decide_eq_false (by simpa using hc)] at h3
          conv => whnf
          repeat' (first
            | ((refine PickE.map i hs (by omega) ?_); conv => whnf)
            | ((with_reducible refine Split.of_true ?_); conv => whnf)
            | ((with_reducible refine Split.of_false ?_); conv => whnf)
            | ((with_reducible refine Split.neg ?_))
            | ((with_reducible refine Split.is_true ?_ ?_); decide; conv => whnf)
            | ((with_reducible refine Split.is_false ?_ ?_); decide; conv => whnf)
            | ((with_reducible refine Split.nez (fun _ => ?_) (fun _ => ?_)) <;> conv => whnf)
            | ((with_reducible refine Split.eqz (fun _ => ?_) (fun _ => ?_)) <;> conv => whnf)
            | ((with_reducible refine Split.and ?_))
            | ((with_reducible refine Split.or ?_))
            | ((with_reducible refine Split.streq (fun _ => ?_) (fun _ => ?_)) <;> conv => whnf)
            | ((with_reducible refine Split.dec (fun _ => ?_) (fun _ => ?_)) <;> conv => whnf)
            | ((with_reducible refine Split.mk (fun _ => ?_) (fun _ => ?_)) <;> conv => whnf)
            | ((with_reducible refine NilK.mk (fun _ => ?_) ?_) <;> conv => whnf)
            | ((with_reducible refine AltK.l ?_); (conv => whnf); (with_reducible refine Need.mk ?_ ?_); (first | omega | (refine ⟨?_, ?_⟩ <;> simp <;> omega) | (simp; omega)); conv => whnf)
            | ((with_reducible refine Need.mk ?_ ?_); (first | omega | rfl | decide | (refine ⟨?_, ?_⟩ <;> simp <;> omega) | (simp; omega)); conv => whnf)
            | ((with_reducible refine Wr.quo ?_ ?_ ?_ ?_); omega; omega; omega; conv => whnf)
            | ((with_reducible refine Wr.inr ?_ ?_); (first | omega | (simp; omega)); conv => whnf)
            | ((with_reducible refine Wr.inu ?_ ?_); omega; conv => whnf)
            | ((with_reducible refine AltK.l ?_); (conv => whnf); (first | (refine CallK.mk _ (h3) ?_) | (refine CallK.mk _ (h4) ?_)); conv => whnf)
            | (exfalso; first | omega | contradiction))
          exact Again.au (i + 1) (by omega) (by omega) (by refine ⟨?_, ?_, rfl⟩ <;> (repeat' (first | exact True.intro | exact rfl | refine ⟨?_, ?_⟩ | (intro h; cases h; done) | (intro h; exact h) | exact map_snoc | (refine own_congr ?_; simp; done) | (refine int_congr ?_; (first | omega | (simp; omega))) | (simp; done) | ((first | refine own_congr ?_ | refine int_congr ?_ | skip); simp [hst]; done) | ((first | refine own_congr ?_ | refine int_congr ?_); simp [hst]; omega) | (show @Eq (List Go.Vm.D) _ []; simp [hst]; done) | (simp [D.cells, hst]; done))))
        · rw [if_neg hc] at hst
          rw [if_neg hc, decide_eq_true hc] at h3
          generalize cellI g s = c at *
          have hm := mget_z c (bnS g v (l.take i))
          have hp := mput_z c (v s) (bnS g v (l.take i))
          conv => whnf
          repeat' (first
            | ((refine PickE.map i hs (by omega) ?_); conv => whnf)
            | ((with_reducible refine Split.of_true ?_); conv => whnf)
            | ((with_reducible refine Split.of_false ?_); conv => whnf)
            | ((with_reducible refine Split.neg ?_))
            | ((with_reducible refine Split.is_true ?_ ?_); decide; conv => whnf)
            | ((with_reducible refine Split.is_false ?_ ?_); decide; conv => whnf)
            | ((with_reducible refine Split.nez (fun _ => ?_) (fun _ => ?_)) <;> conv => whnf)
            | ((with_reducible refine Split.eqz (fun _ => ?_) (fun _ => ?_)) <;> conv => whnf)
            | ((with_reducible refine Split.and ?_))
            | ((with_reducible refine Split.or ?_))
            | ((with_reducible refine Split.streq (fun _ => ?_) (fun _ => ?_)) <;> conv => whnf)
            | ((with_reducible refine Split.dec (fun _ => ?_) (fun _ => ?_)) <;> conv => whnf)
            | ((with_reducible refine Split.mk (fun _ => ?_) (fun _ => ?_)) <;> conv => whnf)
            | ((with_reducible refine NilK.mk (fun _ => ?_) ?_) <;> conv => whnf)
            | ((with_reducible refine AltK.l ?_); (conv => whnf); (with_reducible refine Need.mk ?_ ?_); (first | omega | (refine ⟨?_, ?_⟩ <;> simp <;> omega) | (simp; omega)); conv => whnf)
            | ((with_reducible refine Need.mk ?_ ?_); (first | omega | rfl | decide | (refine ⟨?_, ?_⟩ <;> simp <;> omega) | (simp; omega)); conv => whnf)
            | ((with_reducible refine Wr.quo ?_ ?_ ?_ ?_); omega; omega; omega; conv => whnf)
            | ((with_reducible refine Wr.inr ?_ ?_); (first | omega | (simp; omega)); conv => whnf)
            | ((with_reducible refine Wr.inu ?_ ?_); omega; conv => whnf)
            | ((with_reducible refine AltK.l ?_); (conv => whnf); (first | (refine CallK.mk _ (h3) ?_) | (refine CallK.mk _ (h4) ?_)); conv => whnf)
            | (exfalso; first | omega | contradiction))
          refine LookK.mk (fun w hw => ?_) (fun hw => ?_)
          · rw [hm, Option.map_eq_some_iff] at hw
            obtain ⟨o, ho, rfl⟩ := hw
            rw [ho] at hst
            simp only at hst
            conv => whnf
            repeat' (first
              | ((with_reducible refine Split.of_true ?_); conv => whnf)
              | ((with_reducible refine Split.of_false ?_); conv => whnf)
              | ((with_reducible refine Split.neg ?_))
              | ((with_reducible refine Split.is_true ?_ ?_); decide; conv => whnf)
              | ((with_reducible refine Split.is_false ?_ ?_); decide; conv => whnf)
              | ((with_reducible refine Split.nez (fun _ => ?_) (fun _ => ?_)) <;> conv => whnf)
              | ((with_reducible refine Split.eqz (fun _ => ?_) (fun _ => ?_)) <;> conv => whnf)
              | ((with_reducible refine Split.and ?_))
              | ((with_reducible refine Split.or ?_))
              | ((with_reducible refine Split.streq (fun _ => ?_) (fun _ => ?_)) <;> conv => whnf)
              | ((with_reducible refine Split.dec (fun _ => ?_) (fun _ => ?_)) <;> conv => whnf)
              | ((with_reducible refine Split.mk (fun _ => ?_) (fun _ => ?_)) <;> conv => whnf)
              | ((with_reducible refine NilK.mk (fun _ => ?_) ?_) <;> conv => whnf)
              | ((with_reducible refine AltK.l ?_); (conv => whnf); (with_reducible refine Need.mk ?_ ?_); (first | omega | (refine ⟨?_, ?_⟩ <;> simp <;> omega) | (simp; omega)); conv => whnf)
              | ((with_reducible refine Need.mk ?_ ?_); (first | omega | rfl | decide | (refine ⟨?_, ?_⟩ <;> simp <;> omega) | (simp; omega)); conv => whnf)
              | ((with_reducible refine Wr.quo ?_ ?_ ?_ ?_); omega; omega; omega; conv => whnf)
              | ((with_reducible refine Wr.inr ?_ ?_); (first | omega | (simp; omega)); conv => whnf)
              | ((with_reducible refine Wr.inu ?_ ?_); omega; conv => whnf)
              | ((with_reducible refine AltK.l ?_); (conv => whnf); (first | (refine CallK.mk _ (h4) ?_)); conv => whnf)
              | (exfalso; first | omega | contradiction))
            · rw [if_pos (by assumption)] at hst
              rw [← hst] at hp
              have hmp1 := hp
              exact Again.au (i + 1) (by omega) (by omega) (by refine ⟨?_, ?_, rfl⟩ <;> (repeat' (first | exact True.intro | exact rfl | refine ⟨?_, ?_⟩ | (intro h; cases h; done) | (intro h; exact h) | exact map_snoc | (refine own_congr ?_; simp; done) | (refine int_congr ?_; (first | omega | (simp; omega))) | (simp; done) | exact hmp1 | ((first | refine own_congr ?_ | refine int_congr ?_ | skip); simp [D.cells]; done) | ((first | refine own_congr ?_ | refine int_congr ?_); simp [D.cells]; omega) | (show @Eq (List Go.Vm.D) _ []; simp [D.cells]; done) | (simp [D.cells, D.cells]; done))))
            · rw [if_neg (by assumption)] at hst
              exact Again.au (i + 1) (by omega) (by omega) (by refine ⟨?_, ?_, rfl⟩ <;> (repeat' (first | exact True.intro | exact rfl | refine ⟨?_, ?_⟩ | (intro h; cases h; done) | (intro h; exact h) | exact map_snoc | (refine own_congr ?_; simp; done) | (refine int_congr ?_; (first | omega | (simp; omega))) | (simp; done) | ((first | refine own_congr ?_ | refine int_congr ?_ | skip); simp [hst]; done) | ((first | refine own_congr ?_ | refine int_congr ?_); simp [hst]; omega) | (show @Eq (List Go.Vm.D) _ []; simp [hst]; done) | (simp [D.cells, hst]; done))))
          · rw [hm, Option.map_eq_none_iff] at hw
            rw [hw] at hst
            simp only at hst
            rw [← hst] at hp
            have hmp1 := hp
            conv => whnf
            repeat' (first
              | ((with_reducible refine Split.of_true ?_); conv => whnf)
              | ((with_reducible refine Split.of_false ?_); conv => whnf)
              | ((with_reducible refine Split.neg ?_))
              | ((with_reducible refine Split.is_true ?_ ?_); decide; conv => whnf)
              | ((with_reducible refine Split.is_false ?_ ?_); decide; conv => whnf)
              | ((with_reducible refine Split.nez (fun _ => ?_) (fun _ => ?_)) <;> conv => whnf)
              | ((with_reducible refine Split.eqz (fun _ => ?_) (fun _ => ?_)) <;> conv => whnf)
              | ((with_reducible refine Split.and ?_))
              | ((with_reducible refine Split.or ?_))
              | ((with_reducible refine Split.streq (fun _ => ?_) (fun _ => ?_)) <;> conv => whnf)
              | ((with_reducible refine Split.dec (fun _ => ?_) (fun _ => ?_)) <;> conv => whnf)
              | ((with_reducible refine Split.mk (fun _ => ?_) (fun _ => ?_)) <;> conv => whnf)
              | ((with_reducible refine NilK.mk (fun _ => ?_) ?_) <;> conv => whnf)
              | ((with_reducible refine AltK.l ?_); (conv => whnf); (with_reducible refine Need.mk ?_ ?_); (first | omega | (refine ⟨?_, ?_⟩ <;> simp <;> omega) | (simp; omega)); conv => whnf)
              | ((with_reducible refine Need.mk ?_ ?_); (first | omega | rfl | decide | (refine ⟨?_, ?_⟩ <;> simp <;> omega) | (simp; omega)); conv => whnf)
              | ((with_reducible refine Wr.quo ?_ ?_ ?_ ?_); omega; omega; omega; conv => whnf)
              | ((with_reducible refine Wr.inr ?_ ?_); (first | omega | (simp; omega)); conv => whnf)
              | ((with_reducible refine Wr.inu ?_ ?_); omega; conv => whnf)
              | ((with_reducible refine AltK.l ?_); (conv => whnf); (first | (refine CallK.mk _ (h4) ?_)); conv => whnf)
              | (exfalso; first | omega | contradiction))
            exact Again.au (i + 1) (by omega) (by omega) (by refine ⟨?_, ?_, rfl⟩ <;> (repeat' (first | exact True.intro | exact rfl | refine ⟨?_, ?_⟩ | (intro h; cases h; done) | (intro h; exact h) | exact map_snoc | (refine own_congr ?_; simp; done) | (refine int_congr ?_; (first | omega | (simp; omega))) | (simp; done) | exact hmp1 | ((first | refine own_congr ?_ | refine int_congr ?_ | skip); simp [D.cells]; done) | ((first | refine own_congr ?_ | refine int_congr ?_); simp [D.cells]; omega) | (show @Eq (List Go.Vm.D) _ []; simp [D.cells]; done) | (simp [D.cells, D.cells]; done))))
      · obtain ⟨n, hn⟩ : ∃ n : Nat, g.cols * g.rows = n := ⟨(g.cols * g.rows).toNat, by have := hF.all; omega⟩
        have hal := hF.all
        have hR : EvX Tryz.prog 60 [.own 67 1 1, .d (iD n)] [(67, .row 3 1 [iD 30000] false)] (.own 73 1 n) [(67, .row 3 1 [iD 30000] false), (73, .row 3 1 (List.replicate n (iD 30000)) false)] := (xv_Repeat 30000 n (by omega)).rn [(1000, 67), (9, 73)] rfl
        rw [← hn] at hR
        rw [List.take_of_length_le (show l.length ≤ i by omega)]
        have hN : cellsN g = n := by unfold cellsN; omega
        have hbad := bad_lv (v := v) (l := l) hF
        have hall2 := fun seen h => rowOf_all (v := v) (l := l) hF (seen := seen) h
        rw [hN] at hall2
        obtain ⟨b1, b2, b3⟩ := bn_ok g v l
        have hkey : ∀ p ∈ bnS g v l, 0 ≤ p.1 ∧ p.1 < n := fun p hp => by
          obtain ⟨s, _, e, hc⟩ := b3 p hp
          have := cell_in hF hc
          omega
        clear b1 b2 b3
        generalize bnS g v l = lv at *
        have hmp2 : List.replicate n (iD 30000) = (rowOf lv n []).map iD := by simp [rowOf]
        conv => whnf
        repeat' (first
          | ((with_reducible refine Split.of_true ?_); conv => whnf)
          | ((with_reducible refine Split.of_false ?_); conv => whnf)
          | ((with_reducible refine Split.neg ?_))
          | ((with_reducible refine Split.is_true ?_ ?_); decide; conv => whnf)
          | ((with_reducible refine Split.is_false ?_ ?_); decide; conv => whnf)
          | ((with_reducible refine Split.nez (fun _ => ?_) (fun _ => ?_)) <;> conv => whnf)
          | ((with_reducible refine Split.eqz (fun _ => ?_) (fun _ => ?_)) <;> conv => whnf)
          | ((with_reducible refine Split.and ?_))
          | ((with_reducible refine Split.or ?_))
          | ((with_reducible refine Split.streq (fun _ => ?_) (fun _ => ?_)) <;> conv => whnf)
          | ((with_reducible refine Split.dec (fun _ => ?_) (fun _ => ?_)) <;> conv => whnf)
          | ((with_reducible refine Split.mk (fun _ => ?_) (fun _ => ?_)) <;> conv => whnf)
          | ((with_reducible refine NilK.mk (fun _ => ?_) ?_) <;> conv => whnf)
          | ((with_reducible refine AltK.l ?_); (conv => whnf); (with_reducible refine Need.mk ?_ ?_); (first | omega | (refine ⟨?_, ?_⟩ <;> simp <;> omega) | (simp; omega)); conv => whnf)
          | ((with_reducible refine Need.mk ?_ ?_); (first | omega | rfl | decide | (refine ⟨?_, ?_⟩ <;> simp <;> omega) | (simp; omega)); conv => whnf)
          | ((with_reducible refine Wr.quo ?_ ?_ ?_ ?_); omega; omega; omega; conv => whnf)
          | ((with_reducible refine Wr.inr ?_ ?_); (first | omega | (simp; omega)); conv => whnf)
          | ((with_reducible refine Wr.inu ?_ ?_); omega; conv => whnf)
          | ((with_reducible refine AltK.r ?_); (conv => whnf); (first | (refine CallX.mk _ _ (hR) rfl ?_)); conv => whnf)
          | (exfalso; first | omega | contradiction))
        refine LoopK.o2 (fun seen : List Nat => seen.Nodup ∧ (∀ j ∈ seen, j < lv.length) ∧ ∀ j ∈ seen, ∀ p, lv[j]? = some p → outsideB p.2 (-20000) 20000 = false) (fun _ => []) (fun seen => [(73, .row 3 1 ((rowOf lv n seen).map iD) false), (76, .iter (some 31) (zD lv).length seen)]) (fun seen => lv.length - seen.length) [] ⟨.nil, (fun j hj => (by cases hj)), fun j hj => (by cases hj)⟩ (by refine ⟨?_, ?_, rfl⟩ <;> (repeat' (first | exact True.intro | exact rfl | refine ⟨?_, ?_⟩ | (intro h; cases h; done) | (intro h; exact h) | exact map_snoc | (refine own_congr ?_; simp; done) | (refine int_congr ?_; (first | omega | (simp; omega))) | (simp; done) | exact hmp2 | ((first | refine own_congr ?_ | refine int_congr ?_ | skip); simp [D.cells]; done) | ((first | refine own_congr ?_ | refine int_congr ?_); simp [D.cells]; omega) | (show @Eq (List Go.Vm.D) _ []; simp [D.cells]; done) | (simp [D.cells, D.cells]; done)))) ?_
        rintro seen ⟨n1, n2, n3⟩
        have hrl : ((rowOf lv n seen).map iD).length = n := by rw [List.length_map, rowOf_len]
        conv => whnf
        repeat' (first
          | ((with_reducible refine Split.of_true ?_); conv => whnf)
          | ((with_reducible refine Split.of_false ?_); conv => whnf)
          | ((with_reducible refine Split.neg ?_))
          | ((with_reducible refine Split.is_true ?_ ?_); decide; conv => whnf)
          | ((with_reducible refine Split.is_false ?_ ?_); decide; conv => whnf)
          | ((with_reducible refine Split.nez (fun _ => ?_) (fun _ => ?_)) <;> conv => whnf)
          | ((with_reducible refine Split.eqz (fun _ => ?_) (fun _ => ?_)) <;> conv => whnf)
          | ((with_reducible refine Split.and ?_))
          | ((with_reducible refine Split.or ?_))
          | ((with_reducible refine Split.streq (fun _ => ?_) (fun _ => ?_)) <;> conv => whnf)
          | ((with_reducible refine Split.dec (fun _ => ?_) (fun _ => ?_)) <;> conv => whnf)
          | ((with_reducible refine Split.mk (fun _ => ?_) (fun _ => ?_)) <;> conv => whnf)
          | ((with_reducible refine NilK.mk (fun _ => ?_) ?_) <;> conv => whnf)
          | ((with_reducible refine AltK.l ?_); (conv => whnf); (with_reducible refine Need.mk ?_ ?_); (first | omega | (refine ⟨?_, ?_⟩ <;> simp <;> omega) | (simp; omega)); conv => whnf)
          | ((with_reducible refine Need.mk ?_ ?_); (first | omega | rfl | decide | (refine ⟨?_, ?_⟩ <;> simp <;> omega) | (simp; omega)); conv => whnf)
          | ((with_reducible refine Wr.quo ?_ ?_ ?_ ?_); omega; omega; omega; conv => whnf)
          | ((with_reducible refine Wr.inr ?_ ?_); (first | omega | (simp; omega)); conv => whnf)
          | ((with_reducible refine Wr.inu ?_ ?_); omega; conv => whnf)
          | (exfalso; first | omega | contradiction))
        refine NextK.mk (fun j p hjp hjs => ?_) (fun hall => ?_)
        · conv => whnf
          obtain ⟨⟨q1, q2⟩, hq, rfl⟩ := zD_get hjp
          have h7 := ev_w1 q2 (-20000) 20000
          have hk := hkey _ (List.mem_of_getElem? hq)
          have hjo := (List.getElem?_eq_some_iff.1 hq).1
          have n4 : (j :: seen).Nodup := List.nodup_cons.2 ⟨hjs, n1⟩
          have n5 := nodup_len lv.length (j :: seen) n4 fun x hx => by
            rcases List.mem_cons.1 hx with rfl | hx
            · exact hjo
            · exact n2 x hx
          rw [List.length_cons] at n5
          dsimp only at hk
          cases ho : outsideB q2 (-20000) 20000 with
          | true =>
            rw [ho] at h7
            have hb : badS g v l = true := by rw [hbad]; exact List.any_eq_true.2 ⟨_, List.mem_of_getElem? hq, ho⟩
            rw [if_pos hb]
            conv => whnf
            repeat' (first
              | ((refine PickE.map j hjp rfl ?_); conv => whnf)
              | ((with_reducible refine Split.of_true ?_); conv => whnf)
              | ((with_reducible refine Split.of_false ?_); conv => whnf)
              | ((with_reducible refine Split.neg ?_))
              | ((with_reducible refine Split.is_true ?_ ?_); decide; conv => whnf)
              | ((with_reducible refine Split.is_false ?_ ?_); decide; conv => whnf)
              | ((with_reducible refine Split.nez (fun _ => ?_) (fun _ => ?_)) <;> conv => whnf)
              | ((with_reducible refine Split.eqz (fun _ => ?_) (fun _ => ?_)) <;> conv => whnf)
              | ((with_reducible refine Split.and ?_))
              | ((with_reducible refine Split.or ?_))
              | ((with_reducible refine Split.streq (fun _ => ?_) (fun _ => ?_)) <;> conv => whnf)
              | ((with_reducible refine Split.dec (fun _ => ?_) (fun _ => ?_)) <;> conv => whnf)
              | ((with_reducible refine Split.mk (fun _ => ?_) (fun _ => ?_)) <;> conv => whnf)
              | ((with_reducible refine NilK.mk (fun _ => ?_) ?_) <;> conv => whnf)
              | ((with_reducible refine AltK.l ?_); (conv => whnf); (with_reducible refine Need.mk ?_ ?_); (first | omega | (refine ⟨?_, ?_⟩ <;> simp <;> omega) | (simp; omega)); conv => whnf)
              | ((with_reducible refine Need.mk ?_ ?_); (first | omega | rfl | decide | (refine ⟨?_, ?_⟩ <;> simp <;> omega) | (simp; omega)); conv => whnf)
              | ((with_reducible refine Wr.quo ?_ ?_ ?_ ?_); omega; omega; omega; conv => whnf)
              | ((with_reducible refine Wr.inr ?_ ?_); (first | omega | (simp; omega)); conv => whnf)
              | ((with_reducible refine Wr.inu ?_ ?_); omega; conv => whnf)
              | ((with_reducible refine AltK.l ?_); (conv => whnf); (first | (refine CallK.mk _ (h7) ?_)); conv => whnf)
              | (exfalso; first | omega | contradiction))
            rfl
          | false =>
            rw [ho] at h7
            have hmp3 : ((rowOf lv n seen).map iD).set q1.toNat (iD q2) = (rowOf lv n (j :: seen)).map iD := by
              rw [rowOf, rowOf, List.foldr_cons, hq, ← List.map_set]
            obtain ⟨w, hw⟩ := some_of_lt (l := rowOf lv n seen) (i := q1.toNat) (by rw [rowOf_len]; omega)
            conv => whnf
            repeat' (first
              | ((refine PickE.map q1.toNat hw rfl ?_); conv => whnf)
              | ((refine PickE.map j hjp rfl ?_); conv => whnf)
              | ((with_reducible refine Split.of_true ?_); conv => whnf)
              | ((with_reducible refine Split.of_false ?_); conv => whnf)
              | ((with_reducible refine Split.neg ?_))
              | ((with_reducible refine Split.is_true ?_ ?_); decide; conv => whnf)
              | ((with_reducible refine Split.is_false ?_ ?_); decide; conv => whnf)
              | ((with_reducible refine Split.nez (fun _ => ?_) (fun _ => ?_)) <;> conv => whnf)
              | ((with_reducible refine Split.eqz (fun _ => ?_) (fun _ => ?_)) <;> conv => whnf)
              | ((with_reducible refine Split.and ?_))
              | ((with_reducible refine Split.or ?_))
              | ((with_reducible refine Split.streq (fun _ => ?_) (fun _ => ?_)) <;> conv => whnf)
              | ((with_reducible refine Split.dec (fun _ => ?_) (fun _ => ?_)) <;> conv => whnf)
              | ((with_reducible refine Split.mk (fun _ => ?_) (fun _ => ?_)) <;> conv => whnf)
              | ((with_reducible refine NilK.mk (fun _ => ?_) ?_) <;> conv => whnf)
              | ((with_reducible refine AltK.l ?_); (conv => whnf); (with_reducible refine Need.mk ?_ ?_); (first | omega | (refine ⟨?_, ?_⟩ <;> simp <;> omega) | (simp; omega)); conv => whnf)
              | ((with_reducible refine Need.mk ?_ ?_); (first | omega | rfl | decide | (refine ⟨?_, ?_⟩ <;> simp <;> omega) | (simp; omega)); conv => whnf)
              | ((with_reducible refine Wr.quo ?_ ?_ ?_ ?_); omega; omega; omega; conv => whnf)
              | ((with_reducible refine Wr.inr ?_ ?_); (first | omega | (simp; omega)); conv => whnf)
              | ((with_reducible refine Wr.inu ?_ ?_); omega; conv => whnf)
              | ((with_reducible refine AltK.l ?_); (conv => whnf); (first | (refine CallK.mk _ (h7) ?_)); conv => whnf)
              | (exfalso; first | omega | contradiction))
            refine Again.au (j :: seen) ⟨n4, fun x hx => ?_, fun x hx y hy => ?_⟩ (by rw [List.length_cons]; omega) (by refine ⟨?_, ?_, rfl⟩ <;> (repeat' (first | exact True.intro | exact rfl | refine ⟨?_, ?_⟩ | (intro h; cases h; done) | (intro h; exact h) | exact map_snoc | (refine own_congr ?_; simp; done) | (refine int_congr ?_; (first | omega | (simp; omega))) | (simp; done) | exact hmp3 | ((first | refine own_congr ?_ | refine int_congr ?_ | skip); simp [D.cells]; done) | ((first | refine own_congr ?_ | refine int_congr ?_); simp [D.cells]; omega) | (show @Eq (List Go.Vm.D) _ []; simp [D.cells]; done) | (simp [D.cells, D.cells]; done))))
            · rcases List.mem_cons.1 hx with rfl | hx
              · exact hjo
              · exact n2 x hx
            · rcases List.mem_cons.1 hx with rfl | hx
              · rw [hq] at hy; cases hy; exact ho
              · exact n3 x hx y hy
        · conv => whnf
          have hb : badS g v l = false := by
            rw [hbad, List.any_eq_false]
            intro p hp
            obtain ⟨j, hj, rfl⟩ := List.getElem_of_mem hp
            rw [n3 j (hall j (by rw [zD_len]; exact hj)) _ (List.getElem?_eq_getElem hj)]; decide
          rw [hb, if_neg (by decide)]
          have hall3 := hall2 seen fun j hj => hall j (by rw [zD_len]; exact hj)
          rw [hall3]
          conv => whnf
          repeat' (first
            | ((with_reducible refine Split.of_true ?_); conv => whnf)
            | ((with_reducible refine Split.of_false ?_); conv => whnf)
            | ((with_reducible refine Split.neg ?_))
            | ((with_reducible refine Split.is_true ?_ ?_); decide; conv => whnf)
            | ((with_reducible refine Split.is_false ?_ ?_); decide; conv => whnf)
            | ((with_reducible refine Split.nez (fun _ => ?_) (fun _ => ?_)) <;> conv => whnf)
            | ((with_reducible refine Split.eqz (fun _ => ?_) (fun _ => ?_)) <;> conv => whnf)
            | ((with_reducible refine Split.and ?_))
            | ((with_reducible refine Split.or ?_))
            | ((with_reducible refine Split.streq (fun _ => ?_) (fun _ => ?_)) <;> conv => whnf)
            | ((with_reducible refine Split.dec (fun _ => ?_) (fun _ => ?_)) <;> conv => whnf)
            | ((with_reducible refine Split.mk (fun _ => ?_) (fun _ => ?_)) <;> conv => whnf)
            | ((with_reducible refine NilK.mk (fun _ => ?_) ?_) <;> conv => whnf)
            | ((with_reducible refine AltK.l ?_); (conv => whnf); (with_reducible refine Need.mk ?_ ?_); (first | omega | (refine ⟨?_, ?_⟩ <;> simp <;> omega) | (simp; omega)); conv => whnf)
            | ((with_reducible refine Need.mk ?_ ?_); (first | omega | rfl | decide | (refine ⟨?_, ?_⟩ <;> simp <;> omega) | (simp; omega)); conv => whnf)
            | ((with_reducible refine Wr.quo ?_ ?_ ?_ ?_); omega; omega; omega; conv => whnf)
            | ((with_reducible refine Wr.inr ?_ ?_); (first | omega | (simp; omega)); conv => whnf)
            | ((with_reducible refine Wr.inu ?_ ?_); omega; conv => whnf)
            | (exfalso; first | omega | contradiction))
          rfl
    · rw [if_pos f0]
      refine ev_of_awp tysOk mixed (fn := Tryz.f36) Tryz.func36 rfl rfl rfl ?_
      conv => whnf
      repeat' (first
        | ((with_reducible refine Split.of_true ?_); conv => whnf)
        | ((with_reducible refine Split.of_false ?_); conv => whnf)
        | ((with_reducible refine Split.neg ?_))
        | ((with_reducible refine Split.is_true ?_ ?_); decide; conv => whnf)
        | ((with_reducible refine Split.is_false ?_ ?_); decide; conv => whnf)
        | ((with_reducible refine Split.nez (fun _ => ?_) (fun _ => ?_)) <;> conv => whnf)
        | ((with_reducible refine Split.eqz (fun _ => ?_) (fun _ => ?_)) <;> conv => whnf)
        | ((with_reducible refine Split.and ?_))
        | ((with_reducible refine Split.or ?_))
        | ((with_reducible refine Split.streq (fun _ => ?_) (fun _ => ?_)) <;> conv => whnf)
        | ((with_reducible refine Split.dec (fun _ => ?_) (fun _ => ?_)) <;> conv => whnf)
        | ((with_reducible refine Split.mk (fun _ => ?_) (fun _ => ?_)) <;> conv => whnf)
        | ((with_reducible refine NilK.mk (fun _ => ?_) ?_) <;> conv => whnf)
        | ((with_reducible refine AltK.l ?_); (conv => whnf); (with_reducible refine Need.mk ?_ ?_); (first | omega | (refine ⟨?_, ?_⟩ <;> simp <;> omega) | (simp; omega)); conv => whnf)
        | ((with_reducible refine Need.mk ?_ ?_); (first | omega | rfl | decide | (refine ⟨?_, ?_⟩ <;> simp <;> omega) | (simp; omega)); conv => whnf)
        | ((with_reducible refine Wr.quo ?_ ?_ ?_ ?_); omega; omega; omega; conv => whnf)
        | ((with_reducible refine Wr.inr ?_ ?_); (first | omega | (simp; omega)); conv => whnf)
        | ((with_reducible refine Wr.inu ?_ ?_); omega; conv => whnf)
        | ((with_reducible refine AltK.l ?_); (conv => whnf); (first | (refine CallK.mk _ (h1) ?_) | (refine CallK.mk _ (h2) ?_)); conv => whnf)
        | (exfalso; first | omega | contradiction))
      all_goals simp_all [retOf, grE, iD, grD, gr0]
  · rw [if_pos c0]
    refine ev_of_awp tysOk mixed (fn := Tryz.f36) Tryz.func36 rfl rfl rfl ?_
    conv => whnf
    repeat' (first
      | ((with_reducible refine Split.of_true ?_); conv => whnf)
      | ((with_reducible refine Split.of_false ?_); conv => whnf)
      | ((with_reducible refine Split.neg ?_))
      | ((with_reducible refine Split.is_true ?_ ?_); decide; conv => whnf)
      | ((with_reducible refine Split.is_false ?_ ?_); decide; conv => whnf)
      | ((with_reducible refine Split.nez (fun _ => ?_) (fun _ => ?_)) <;> conv => whnf)
      | ((with_reducible refine Split.eqz (fun _ => ?_) (fun _ => ?_)) <;> conv => whnf)
      | ((with_reducible refine Split.and ?_))
      | ((with_reducible refine Split.or ?_))
      | ((with_reducible refine Split.streq (fun _ => ?_) (fun _ => ?_)) <;> conv => whnf)
      | ((with_reducible refine Split.dec (fun _ => ?_) (fun _ => ?_)) <;> conv => whnf)
      | ((with_reducible refine Split.mk (fun _ => ?_) (fun _ => ?_)) <;> conv => whnf)
      | ((with_reducible refine NilK.mk (fun _ => ?_) ?_) <;> conv => whnf)
      | ((with_reducible refine AltK.l ?_); (conv => whnf); (with_reducible refine Need.mk ?_ ?_); (first | omega | (refine ⟨?_, ?_⟩ <;> simp <;> omega) | (simp; omega)); conv => whnf)
      | ((with_reducible refine Need.mk ?_ ?_); (first | omega | rfl | decide | (refine ⟨?_, ?_⟩ <;> simp <;> omega) | (simp; omega)); conv => whnf)
      | ((with_reducible refine Wr.quo ?_ ?_ ?_ ?_); omega; omega; omega; conv => whnf)
      | ((with_reducible refine Wr.inr ?_ ?_); (first | omega | (simp; omega)); conv => whnf)
      | ((with_reducible refine Wr.inu ?_ ?_); omega; conv => whnf)
      | ((with_reducible refine AltK.l ?_); (conv => whnf); (first | (refine CallK.mk _ (h1) ?_)); conv => whnf)
      | (exfalso; first | omega | contradiction))
    all_goals simp_all [retOf, grE, iD, grD, gr0]
end Go.Proofs.Tryz
end

section
namespace Go.Proofs.Tryz
open Go Go.Vm Go.Sort
set_option maxRecDepth 20000
set_option maxHeartbeats 8000000
/-! Bin, Floor, Count; the reference's grid and Count; SoundingBins. -/
def hiV (s : Sg) : Int := s.hi
theorem ev_BinS (l : List Sg) (g : Gr) : Ev Tryz.prog 11 [.sl 5 (l.map sgD), grD g] (grE (binRes g hiV l)) := by
  have h0 : ∀ s : Sg, Ev Tryz.prog 37 [sgD s] (iD (hiV s)) := fun s => by
    refine ev_of_awp tysOk mixed (fn := Tryz.f37) Tryz.func37 rfl rfl rfl ?_
    conv => whnf
    repeat' (first
      | ((with_reducible refine Split.of_true ?_); conv => whnf)
      | ((with_reducible refine Split.of_false ?_); conv => whnf)
      | ((with_reducible refine Split.neg ?_))
      | ((with_reducible refine Split.is_true ?_ ?_); decide; conv => whnf)
      | ((with_reducible refine Split.is_false ?_ ?_); decide; conv => whnf)
      | ((with_reducible refine Split.nez (fun _ => ?_) (fun _ => ?_)) <;> conv => whnf)
      | ((with_reducible refine Split.eqz (fun _ => ?_) (fun _ => ?_)) <;> conv => whnf)
      | ((with_reducible refine Split.and ?_))
      | ((with_reducible refine Split.or ?_))
      | ((with_reducible refine Split.streq (fun _ => ?_) (fun _ => ?_)) <;> conv => whnf)
      | ((with_reducible refine Split.dec (fun _ => ?_) (fun _ => ?_)) <;> conv => whnf)
      | ((with_reducible refine Split.mk (fun _ => ?_) (fun _ => ?_)) <;> conv => whnf)
      | ((with_reducible refine NilK.mk (fun _ => ?_) ?_) <;> conv => whnf)
      | ((with_reducible refine AltK.l ?_); (conv => whnf); (with_reducible refine Need.mk ?_ ?_); (first | omega | (refine ⟨?_, ?_⟩ <;> simp <;> omega) | (simp; omega)); conv => whnf)
      | ((with_reducible refine Need.mk ?_ ?_); (first | omega | rfl | decide | (refine ⟨?_, ?_⟩ <;> simp <;> omega) | (simp; omega)); conv => whnf)
      | ((with_reducible refine Wr.quo ?_ ?_ ?_ ?_); omega; omega; omega; conv => whnf)
      | ((with_reducible refine Wr.inr ?_ ?_); (first | omega | (simp; omega)); conv => whnf)
      | ((with_reducible refine Wr.inu ?_ ?_); omega; conv => whnf)
      | (exfalso; first | omega | contradiction))
    rfl
  have h := ev_binned l g 37 [] hiV fun s _ => h0 s
  refine ev_of_awp tysOk mixed (fn := Tryz.f11) Tryz.func11 rfl rfl rfl ?_
  conv => whnf
  repeat' (first
    | ((with_reducible refine Split.of_true ?_); conv => whnf)
    | ((with_reducible refine Split.of_false ?_); conv => whnf)
    | ((with_reducible refine Split.neg ?_))
    | ((with_reducible refine Split.is_true ?_ ?_); decide; conv => whnf)
    | ((with_reducible refine Split.is_false ?_ ?_); decide; conv => whnf)
    | ((with_reducible refine Split.nez (fun _ => ?_) (fun _ => ?_)) <;> conv => whnf)
    | ((with_reducible refine Split.eqz (fun _ => ?_) (fun _ => ?_)) <;> conv => whnf)
    | ((with_reducible refine Split.and ?_))
    | ((with_reducible refine Split.or ?_))
    | ((with_reducible refine Split.streq (fun _ => ?_) (fun _ => ?_)) <;> conv => whnf)
    | ((with_reducible refine Split.dec (fun _ => ?_) (fun _ => ?_)) <;> conv => whnf)
    | ((with_reducible refine Split.mk (fun _ => ?_) (fun _ => ?_)) <;> conv => whnf)
    | ((with_reducible refine NilK.mk (fun _ => ?_) ?_) <;> conv => whnf)
    | ((with_reducible refine AltK.l ?_); (conv => whnf); (with_reducible refine Need.mk ?_ ?_); (first | omega | (refine ⟨?_, ?_⟩ <;> simp <;> omega) | (simp; omega)); conv => whnf)
    | ((with_reducible refine Need.mk ?_ ?_); (first | omega | rfl | decide | (refine ⟨?_, ?_⟩ <;> simp <;> omega) | (simp; omega)); conv => whnf)
    | ((with_reducible refine Wr.quo ?_ ?_ ?_ ?_); omega; omega; omega; conv => whnf)
    | ((with_reducible refine Wr.inr ?_ ?_); (first | omega | (simp; omega)); conv => whnf)
    | ((with_reducible refine Wr.inu ?_ ?_); omega; conv => whnf)
    | ((with_reducible refine AltK.l ?_); (conv => whnf); (first | (refine CallK.mk _ (h) ?_)); conv => whnf)
    | (exfalso; first | omega | contradiction))
  rfl
end Go.Proofs.Tryz
end

section
namespace Go.Proofs.Tryz
open Go Go.Vm Go.Sort
set_option maxRecDepth 20000
set_option maxHeartbeats 4000000
/-! SoundingBins. -/
def cGrid : List Cs := [.int .i64, .int .i64, .int .i64, .int .i64, .int .i64, .sl false [.int .i64]]
theorem grid_of {d : D} (h : TyV (true, cGrid) d) : ∃ g, d = grD g := by
  obtain ⟨ds, rfl, hl, hc⟩ := agg_of h
  match ds, hl with
  | [a, b, c, e, f, i], _ =>
    obtain ⟨x0, rfl, -⟩ := int_of (hc 0 _ a rfl rfl)
    obtain ⟨x1, rfl, -⟩ := int_of (hc 1 _ b rfl rfl)
    obtain ⟨x2, rfl, -⟩ := int_of (hc 2 _ c rfl rfl)
    obtain ⟨x3, rfl, -⟩ := int_of (hc 3 _ e rfl rfl)
    obtain ⟨x4, rfl, -⟩ := int_of (hc 4 _ f rfl rfl)
    obtain ⟨l, rfl⟩ := ints_of (hc 5 _ i rfl rfl)
    exact ⟨⟨x0, x1, x2, x3, x4, l⟩, rfl⟩
end Go.Proofs.Tryz
end

section
namespace Go.Proofs.Tryz
open Go Go.Vm Go.Sort
/-! Plain laws: what a thinning keeps; accepted thinnings. -/
theorem chkGo_of {α : Type} {v : α → Bool} {num : α → Int} : ∀ (r o : List α), (∀ x ∈ r, v x = true) → (o ++ r).Pairwise (fun a b => num a ≠ num b) → chkGo v num o r = 0
  | [], _, _, _ => rfl
  | x :: r, o, h1, h2 => by
    rw [chkGo, if_neg (by rw [h1 x (by simp)]; decide)]
    have h3 : ¬ (o.any fun y => num y == num x) = true := by
      rw [List.any_eq_true]
      rintro ⟨y, hy, e⟩
      have := (List.pairwise_append.1 h2).2.2 y hy x (by simp)
      exact this (by simpa using e)
    rw [if_neg h3]
    exact chkGo_of r (o ++ [x]) (fun y hy => h1 y (by simp [hy])) (by simpa using h2)
theorem chk_of {α : Type} {v : α → Bool} {num : α → Int} {l : List α} (h1 : l.length ≤ 500) (h2 : ∀ x ∈ l, v x = true) (h3 : l.Pairwise fun a b => num a ≠ num b) : chkErr v num l = 0 := by
  rw [chkErr, if_neg (by omega)]; exact chkGo_of l [] h2 h3
def farP (r : Int) (a b : Sg) : Prop := ¬ sqS a b.x b.y ≤ r * r
structure GOk (r : Int) (o kp : List Sg) (p : Int × Int) (s k : Sg) : Prop where
  so : s ∈ o
  ko : k ∈ kp
  e : p = (s.n, k.n)
  close : sqS k s.x s.y ≤ r * r
  hi : s.hi ≤ k.hi
  out : s ∉ kp
structure TFacts (r : Int) (o : List Sg) : Prop where
  sub : (thinO r o).1.Sublist o
  far : (thinO r o).1.Pairwise (farP r)
  cov : ∀ s ∈ o, s ∈ (thinO r o).1 ∨ ∃ k ∈ (thinO r o).1, (s.n, k.n) ∈ (thinO r o).2
  gs : ∀ p ∈ (thinO r o).2, ∃ s k, GOk r o (thinO r o).1 p s k
theorem thin_facts (r : Int) (o : List Sg) : NoTwo o → (o.Pairwise fun a b => b.hi ≤ a.hi) → TFacts r o := by
  refine list_snoc (P := fun o => NoTwo o → (o.Pairwise fun a b => b.hi ≤ a.hi) → TFacts r o) (fun _ _ => ⟨.slnil, .nil, (fun s h => (by cases h)), fun s h => (by cases h)⟩) (fun o s ih hu hs => ?_) o
  obtain ⟨u1, _, u2⟩ := List.pairwise_append.1 hu
  obtain ⟨s1, _, s2⟩ := List.pairwise_append.1 hs
  obtain ⟨h1, h2, h3, h4⟩ := ih u1 s1
  have hnot : s ∉ o := fun h => u2 s h s (by simp) rfl
  constructor
  all_goals
    rw [thinO_app]
    generalize thinO r o = q at *
    obtain ⟨kp, gs⟩ := q
    dsimp only at h1 h2 h3 h4
    rw [thinStep]
    cases hf : kp.find? fun k => decide (sqS k s.x s.y ≤ r * r)
    all_goals dsimp only
  · exact h1.append (.refl _)
  · exact h1.trans (List.sublist_append_left _ _)
  · refine List.pairwise_append.2 ⟨h2, by simp, fun a ha b hb => ?_⟩
    rw [List.mem_singleton.1 hb]
    have := List.find?_eq_none.1 hf a ha
    simpa [farP] using this
  · exact h2
  · intro t ht
    rcases List.mem_append.1 ht with ht | ht
    · rcases h3 t ht with h | ⟨k, hk, hkg⟩
      · exact .inl (List.mem_append_left _ h)
      · exact .inr ⟨k, List.mem_append_left _ hk, hkg⟩
    · rw [List.mem_singleton.1 ht]; exact .inl (by simp)
  · rename_i k
    intro t ht
    rcases List.mem_append.1 ht with ht | ht
    · rcases h3 t ht with h | ⟨k, hk, hkg⟩
      · exact .inl h
      · exact .inr ⟨k, hk, List.mem_append_left _ hkg⟩
    · rw [List.mem_singleton.1 ht]; exact .inr ⟨k, List.mem_of_find?_eq_some hf, by simp⟩
  · intro p hp
    obtain ⟨t, k, g1, g2, g3, g4, g5, g6⟩ := h4 p hp
    refine ⟨t, k, List.mem_append_left _ g1, List.mem_append_left _ g2, g3, g4, g5, fun h => ?_⟩
    rcases List.mem_append.1 h with h | h
    · exact g6 h
    · rw [List.mem_singleton.1 h] at g1; exact hnot g1
  · rename_i k
    intro p hp
    rcases List.mem_append.1 hp with hp | hp
    · obtain ⟨t, k, g1, g2, g3, g4, g5, g6⟩ := h4 p hp
      exact ⟨t, k, List.mem_append_left _ g1, g2, g3, g4, g5, g6⟩
    · have hk := List.mem_of_find?_eq_some hf
      have hc : sqS k s.x s.y ≤ r * r := by simpa using List.find?_some hf
      exact ⟨s, k, by simp, hk, List.mem_singleton.1 hp, hc, s2 k (h1.subset hk) s (by simp), fun h => hnot (h1.subset h)⟩
theorem thin_far {r : Int} : ∀ (o : List Sg), o.Pairwise (farP r) → thinO r o = (o, []) := by
  refine fun o => list_snoc (P := fun o => o.Pairwise (farP r) → thinO r o = (o, [])) (fun _ => rfl) (fun o s ih h => ?_) o
  obtain ⟨h1, _, h2⟩ := List.pairwise_append.1 h
  rw [thinO_app, ih h1, thinStep]
  have : o.find? (fun k => decide (sqS k s.x s.y ≤ r * r)) = none := by
    rw [List.find?_eq_none]; intro k hk
    have := h2 k hk s (by simp)
    simpa [farP] using this
  simp only [this]
theorem sqS_sym (s o : Sg) : sqS s o.x o.y = sqS o s.x s.y := by
  have h : ∀ a b : Int, (a - b) * (a - b) = (b - a) * (b - a) := fun a b => by
    rw [← Int.neg_mul_neg]; congr 1 <;> omega
  unfold sqS
  rw [h s.x, h s.y]
theorem rr_nn (a : Int) : 0 ≤ a * a := by
  rcases Int.le_total 0 a with h | h
  · exact Int.mul_nonneg h h
  · have := Int.mul_nonneg (show 0 ≤ -a by omega) (show 0 ≤ -a by omega)
    rw [Int.neg_mul_neg] at this; exact this
theorem far_symm {r : Int} {a b : Sg} (h : farP r a b) : farP r b a := by unfold farP at *; rw [sqS_sym b a]; exact h
theorem find_self {l : List Sg} (hu : NoTwo l) {s : Sg} (hs : s ∈ l) : (l.find? fun t => t.n == s.n) = some s := by
  cases h : l.find? fun t => t.n == s.n with
  | none =>
    have := List.find?_eq_none.1 h s hs
    simp at this
  | some t =>
    obtain ⟨h1, h2⟩ := find_mem h
    rw [noTwo_eq hu t h1 s hs h2]
theorem kRun_of {l : List Sg} {r : Int} (hu : NoTwo l) : ∀ (S o : List Sg), (∀ s ∈ S, s ∈ l) → (o ++ S).Pairwise (fun a b => a.n < b.n) → (o ++ S).Pairwise (farP r) → kRun l r o (S.map Sg.n) = some (o ++ S)
  | [], o, _, _, _ => by simp [kRun]
  | s :: S, o, h1, h2, h3 => by
    rw [List.map_cons, kRun, find_self hu (h1 s (by simp))]
    simp only
    have n1 : notUp o s.n = false := by
      rcases nil_or_snoc o with rfl | ⟨q, z, rfl⟩
      · rfl
      · have := (List.pairwise_append.1 h2).2.2 z (by simp) s (by simp)
        simp [notUp]; omega
    have n2 : (o.any fun k => decide (sqS k s.x s.y ≤ r * r)) = false := by
      rw [List.any_eq_false]; intro k hk
      have := (List.pairwise_append.1 h3).2.2 k hk s (by simp)
      simpa [farP] using this
    rw [n1, n2, if_neg (by decide), if_neg (by decide)]
    have := kRun_of hu S (o ++ [s]) (fun t ht => h1 t (by simp [ht])) (by simpa using h2) (by simpa using h3)
    simpa using this
theorem gRun_of {l S : List Sg} {r : Int} : ∀ (G : List (Int × Int)) (p : Option Int), (G.Pairwise fun a b => a.1 < b.1) → (∀ q, p = some q → ∀ x ∈ G, q < x.1) →
    (∀ x ∈ G, ∃ s k, (l.find? fun t => t.n == x.1) = some s ∧ (S.find? fun t => t.n == x.2) = some k ∧ (S.find? fun t => t.n == x.1) = none ∧ sqS k s.x s.y ≤ r * r ∧ s.hi ≤ k.hi) → gRun l S r p G = true
  | [], _, _, _, _ => rfl
  | x :: G, p, h1, h2, h3 => by
    obtain ⟨s, k, g1, g2, g3, g4, g5⟩ := h3 x (by simp)
    obtain ⟨a1, a2⟩ := List.pairwise_cons.1 h1
    rw [gRun, g1, g2]
    simp only
    have u1 : gUp p x.1 = false := by
      cases p with
      | none => rfl
      | some q => have := h2 q rfl x (by simp); simp [gUp]; omega
    have u2 : gBad r s k = false := by simp [gBad]; omega
    rw [g3, if_neg (show ¬ (none : Option Sg).isSome = true from Bool.false_ne_true), u1, u2, if_neg (by decide), if_neg (by decide)]
    exact gRun_of G (some x.1) a2 (fun q hq y hy => by cases hq; exact a1 y hy) fun y hy => h3 y (by simp [hy])
theorem kpGo_of {l : List Sg} : ∀ (K o : List Int), (∀ n ∈ K, n ∈ l.map Sg.n) → (o ++ K).Pairwise (fun a b => a ≠ b) → kpGo l o K = 0
  | [], _, _, _ => rfl
  | n :: K, o, h1, h2 => by
    have e1 : (l.any fun s => s.n == n) = true := by
      obtain ⟨s, hs, e⟩ := List.mem_map.1 (h1 n (by simp))
      exact List.any_eq_true.2 ⟨s, hs, by simpa using e⟩
    have e2 : (o.any fun m => m == n) = false := by
      rw [List.any_eq_false]; intro m hm
      have := (List.pairwise_append.1 h2).2.2 m hm n (by simp)
      simpa using this
    rw [kpGo, e1, e2, if_neg (by decide), if_neg (by decide)]
    exact kpGo_of K (o ++ [n]) (fun m hm => h1 m (by simp [hm])) (by simpa using h2)
def byNum (a b : Sg) : Int := cmpI a.n b.n
theorem swoNum : SWO fun a b => decide (byNum a b < 0) where
  irrefl a := by simp only [byNum, cmpI_neg, decide_eq_false_iff_not]; omega
  trans a b c := by simp only [byNum, cmpI_neg, decide_eq_true_eq]; omega
  ntrans a b c := by simp only [byNum, cmpI_neg, decide_eq_false_iff_not]; omega
theorem num_up {kp : List Sg} (hu : NoTwo kp) : (sortL byNum kp).Pairwise fun a b => a.n < b.n :=
  (sortL_strict swoNum (noTwo_nodup hu) fun a ha b hb h1 h2 => noTwo_eq hu a ha b hb (by simp only [byNum, cmpI_neg] at h1 h2; omega)).imp fun {a b} h => by simpa only [byNum, cmpI_neg] using h
theorem num_map {kp : List Sg} (hu : NoTwo kp) : (sortL byNum kp).map Sg.n = sortZ (kp.map Sg.n) := by
  refine sortZ_eq ((sortL_perm byNum kp).map _) ?_
  rw [List.pairwise_map]
  exact (num_up hu).imp fun {a b} h => Int.le_of_lt h
/-- What a valid sheet's thinning is like. -/
structure Shoal (l : List Sg) (r : Int) : Prop where
  e : (thinRes l r).2.2 = 0
  keep : keepRes l (thinRes l r).1 = (keepS l (thinRes l r).1, 0)
  right : rightB l r (thinRes l r).1 (thinRes l r).2.1 = true
  len : (keepS l (thinRes l r).1).length + (thinRes l r).2.1.length = l.length
  near : ∀ s ∈ l, ∃ k ∈ keepS l (thinRes l r).1, s.hi ≤ k.hi ∧ sqS k s.x s.y ≤ r * r
  again : thinRes (keepS l (thinRes l r).1) r = ((thinRes l r).1, [], 0)
theorem shoal {l : List Sg} {r : Int} (c0 : chkErr sgB Sg.n l = 0) (r0 : radB r = 0) : Shoal l r := by
  obtain ⟨hl5, hall, hu⟩ := chk_zero c0
  have huo : NoTwo (sortL cfThin l) := noTwo_perm (sortL_perm cfThin l).symm hu
  have hso : (sortL cfThin l).Pairwise fun a b => b.hi ≤ a.hi := (sortL_sorted swoThin l).imp fun {a b} h => by rw [cfThin_lt] at h; omega
  have hstr : (sortL cfThin l).Pairwise fun a b => cfThin a b < 0 := sortL_strict swoThin (noTwo_nodup hu) fun a ha b hb h1 h2 => noTwo_eq hu a ha b hb (by rw [cfThin_lt] at h1 h2; omega)
  have hmem : ∀ {s}, s ∈ sortL cfThin l ↔ s ∈ l := fun {s} => (sortL_perm cfThin l).mem_iff
  obtain ⟨f1, f2, f3, f4⟩ := thin_facts r (sortL cfThin l) huo hso
  obtain ⟨p1, _⟩ := thin_split r (sortL cfThin l) huo fun s hs => sg_pos (hall s (hmem.1 hs))
  have hpg := thin_pairs r hu
  have hln := thinO_len r (sortL cfThin l)
  have eT : thinRes l r = (sortZ ((thinO r (sortL cfThin l)).1.map Sg.n), sortL (fun a b => cmpI a.1 b.1) (thinO r (sortL cfThin l)).2, 0) := by
    rw [thinRes, if_neg (by simpa using c0), if_neg (by simpa using r0)]
  generalize thinO r (sortL cfThin l) = q at *
  obtain ⟨kp, gs⟩ := q
  dsimp only at f1 f2 f3 f4 p1 hpg hln eT
  have hkl : ∀ s ∈ kp, s ∈ l := fun s hs => hmem.1 (f1.subset hs)
  have hku : NoTwo kp := huo.sublist f1
  have hin : ∀ s ∈ sortL cfThin l, ((sortZ (kp.map Sg.n)).any fun m => m == s.n) = decide (gdF gs s.n = 0) := by
    intro s hs
    rw [Bool.eq_iff_iff, List.any_eq_true, decide_eq_true_eq]
    constructor
    · rintro ⟨m, hm, e⟩
      obtain ⟨k, hk, e2⟩ := List.mem_map.1 ((sortZ_perm _).subset hm)
      have : k = s := noTwo_eq huo k (f1.subset hk) s hs (by rw [e2]; simpa using e)
      subst this
      rw [p1] at hk
      simpa using (List.mem_filter.1 hk).2
    · intro h
      have : s ∈ kp := by rw [p1]; exact List.mem_filter.2 ⟨hs, by simpa using h⟩
      exact ⟨s.n, (sortZ_perm _).symm.subset (List.mem_map.2 ⟨s, this, rfl⟩), by simp⟩
  have hkS : (keepS l (sortZ (kp.map Sg.n))).Perm kp := by
    have h1 : (keepS l (sortZ (kp.map Sg.n))).Perm ((sortL cfThin l).filter fun s => (sortZ (kp.map Sg.n)).any fun m => m == s.n) := ((sortL_perm cfThin l).symm.filter _)
    refine h1.trans ?_
    rw [List.filter_congr hin, ← p1]
  have hkey : ∀ x ∈ sortL (fun a b : Int × Int => cmpI a.1 b.1) gs, x ∈ gs := fun x hx => (sortL_perm _ _).subset hx
  have swoG : SWO fun x y : Int × Int => decide (cmpI x.1 y.1 < 0) := ⟨fun x => by simp only [cmpI_neg, decide_eq_false_iff_not]; omega, fun x y z => by simp only [cmpI_neg, decide_eq_true_eq]; omega, fun x y z => by simp only [cmpI_neg, decide_eq_false_iff_not]; omega⟩
  have hGup : (sortL (fun a b : Int × Int => cmpI a.1 b.1) gs).Pairwise fun a b => a.1 < b.1 := by
    have h1 := (sortL_sorted swoG gs).and ((sortL_perm (fun a b : Int × Int => cmpI a.1 b.1) gs).symm.pairwise hpg fun h e => h e.symm)
    exact h1.imp fun {a b} h => by rw [cmpI_neg] at h; omega
  have hS1 : ∀ {s}, s ∈ sortL byNum kp ↔ s ∈ kp := fun {s} => (sortL_perm byNum kp).mem_iff
  have hSu : NoTwo (sortL byNum kp) := noTwo_perm (sortL_perm byNum kp).symm hku
  constructor
  all_goals rw [eT]
  · rw [keepRes, if_neg (by simpa using c0)]
    dsimp only
    rw [← num_map hku, kpGo_of ((sortL byNum kp).map Sg.n) [] (fun n hn => by
      obtain ⟨s, hs, rfl⟩ := List.mem_map.1 hn
      exact List.mem_map.2 ⟨s, hkl s (hS1.1 hs), rfl⟩) (by
      rw [List.nil_append, List.pairwise_map]; exact hSu), if_neg (by decide)]
  · have e1 : kRun l r [] ((sortL byNum kp).map Sg.n) = some (sortL byNum kp) := by
      have := kRun_of (r := r) hu (sortL byNum kp) [] (fun s hs => hkl s (hS1.1 hs)) (num_up hku) ((sortL_perm byNum kp).symm.pairwise f2 far_symm)
      rwa [List.nil_append] at this
    have hlenT : (sortZ (kp.map Sg.n)).length + (sortL (fun a b : Int × Int => cmpI a.1 b.1) gs).length = l.length := by
      rw [sortZ_len, List.length_map, sortL_len, hln, sortL_len]
    rw [rightB, decide_eq_true hlenT, Bool.true_and]
    dsimp only
    rw [← num_map hku, e1]
    dsimp only
    refine gRun_of _ none hGup (fun q hq => (by cases hq)) fun x hx => ?_
    obtain ⟨s, k, g1, g2, rfl, g4, g5, g6⟩ := f4 x (hkey x hx)
    refine ⟨s, k, find_self hu (hmem.1 g1), find_self hSu (hS1.2 g2), ?_, g4, g5⟩
    rw [List.find?_eq_none]
    intro t ht e
    have := noTwo_eq huo t (f1.subset (hS1.1 ht)) s g1 (by simpa using e)
    exact g6 (this ▸ hS1.1 ht)
  · dsimp only
    rw [hkS.length_eq, sortL_len, hln, sortL_len]
  · intro s hs
    dsimp only
    rcases f3 s (hmem.2 hs) with h | ⟨k, hk, hg⟩
    · have h0 := rr_nn r
      exact ⟨s, hkS.symm.subset h, Int.le_refl _, by simp [sqS]; exact h0⟩
    · obtain ⟨t, k', g1, g2, g3, g4, g5, _⟩ := f4 _ hg
      simp only [Prod.mk.injEq] at g3
      have e1 := noTwo_eq huo s (hmem.2 hs) t g1 g3.1
      have e2 := noTwo_eq hku k hk k' g2 g3.2
      subst e1; subst e2
      exact ⟨k, hkS.symm.subset hk, g5, g4⟩
  · dsimp only
    have c1 : chkErr sgB Sg.n (keepS l (sortZ (kp.map Sg.n))) = 0 := chk_of (by have := keep_len l (sortZ (kp.map Sg.n)); omega) (fun x hx => hall x ((List.mem_filter.1 hx).1)) (hu.filter _)
    have e1 : kp = sortL cfThin (keepS l (sortZ (kp.map Sg.n))) := sortL_eq swoThin hkS.symm (hstr.sublist f1)
    rw [thinRes, if_neg (by simpa using c1), if_neg (by simpa using r0), ← e1, thin_far kp f2]
    have e2 : sortL (fun a b : Int × Int => cmpI a.1 b.1) [] = [] := List.eq_nil_of_length_eq_zero (by rw [sortL_len]; rfl)
    rw [e2]
end Go.Proofs.Tryz
end

section
namespace Go.Proofs.Tryz
open Go Go.Vm Go.Sort
set_option maxRecDepth 20000
set_option maxHeartbeats 8000000
/-! SoundingHighest. -/
theorem mx_spec (g : Gr) (v : Sg → Int) (i : Int) (m : List Sg) : match maxO g v m i with
    | none => ∀ s ∈ m, cellI g s ≠ i
    | some x => (∃ s ∈ m, cellI g s = i ∧ v s = x) ∧ ∀ s ∈ m, cellI g s = i → v s ≤ x := by
  refine list_snoc (P := fun m => match maxO g v m i with
    | none => ∀ s ∈ m, cellI g s ≠ i
    | some x => (∃ s ∈ m, cellI g s = i ∧ v s = x) ∧ ∀ s ∈ m, cellI g s = i → v s ≤ x) (fun s h => (by cases h)) (fun m s ih => ?_) m
  have e : maxO g v (m ++ [s]) i = mxStep g v i (maxO g v m i) s := by rw [maxO, List.foldl_append]; rfl
  rw [e]
  unfold mxStep
  by_cases hc : cellI g s = i
  · rw [if_pos hc]
    cases hm : maxO g v m i with
    | none =>
      rw [hm] at ih
      simp only at ih ⊢
      refine ⟨⟨s, by simp, hc, rfl⟩, fun t ht htc => ?_⟩
      rcases List.mem_append.1 ht with ht | ht
      · exact absurd htc (ih t ht)
      · rw [List.mem_singleton.1 ht]; exact Int.le_refl _
    | some x =>
      rw [hm] at ih
      simp only at ih ⊢
      obtain ⟨⟨t, ht, h1, h2⟩, h3⟩ := ih
      split
      · rename_i hgt
        refine ⟨⟨s, by simp, hc, rfl⟩, fun t ht htc => ?_⟩
        rcases List.mem_append.1 ht with ht | ht
        · have := h3 t ht htc; omega
        · rw [List.mem_singleton.1 ht]; exact Int.le_refl _
      · rename_i hgt
        refine ⟨⟨t, List.mem_append_left _ ht, h1, h2⟩, fun t ht htc => ?_⟩
        rcases List.mem_append.1 ht with ht | ht
        · exact h3 t ht htc
        · rw [List.mem_singleton.1 ht]; omega
  · rw [if_neg hc]
    cases hm : maxO g v m i with
    | none =>
      rw [hm] at ih
      simp only at ih ⊢
      intro t ht
      rcases List.mem_append.1 ht with ht | ht
      · exact ih t ht
      · rw [List.mem_singleton.1 ht]; exact hc
    | some x =>
      rw [hm] at ih
      simp only at ih ⊢
      obtain ⟨⟨t, ht, h1, h2⟩, h3⟩ := ih
      refine ⟨⟨t, List.mem_append_left _ ht, h1, h2⟩, fun t ht htc => ?_⟩
      rcases List.mem_append.1 ht with ht | ht
      · exact h3 t ht htc
      · rw [List.mem_singleton.1 ht] at htc; exact absurd htc hc
theorem mx_none {g : Gr} {v : Sg → Int} {i : Int} {m : List Sg} (h : maxO g v m i = none) : ∀ s ∈ m, cellI g s ≠ i := by
  have := mx_spec g v i m
  rw [h] at this; exact this
theorem mx_some {g : Gr} {v : Sg → Int} {i x : Int} {m : List Sg} (h : maxO g v m i = some x) : (∃ s ∈ m, cellI g s = i ∧ v s = x) ∧ ∀ s ∈ m, cellI g s = i → v s ≤ x := by
  have := mx_spec g v i m
  rw [h] at this; exact this
theorem lev_get {g : Gr} {v : Sg → Int} {l : List Sg} {i : Nat} (hi : i < cellsN g) : (levS g v l)[i]? = some ((maxO g v l (i : Int)).getD 30000) := by
  rw [levS, List.getElem?_map, List.getElem?_range hi]; rfl
theorem lev_len (g : Gr) (v : Sg → Int) (l : List Sg) : (levS g v l).length = cellsN g := by simp [levS]
theorem chk_part {l m : List Sg} (h : chkErr sgB Sg.n l = 0) (hs : m.Sublist l) : chkErr sgB Sg.n m = 0 := by
  obtain ⟨h1, h2, h3⟩ := chk_zero h
  exact chk_of (by have := hs.length_le; omega) (fun x hx => h2 x (hs.subset hx)) (h3.sublist hs)
theorem bin_ok {g : Gr} {l : List Sg} (c0 : chkErr sgB Sg.n l = 0) (f0 : frErr g = 0) : binRes g hiV l = if badS g hiV l = true then (gr0, 2) else ({ g with lv := levS g hiV l }, 0) := by
  rw [binRes, if_neg (by simpa using c0), if_neg (by simpa using f0)]
end Go.Proofs.Tryz
end

section
namespace Go.Proofs.Tryz
open Go Go.Vm Go.Sort
set_option maxRecDepth 20000
set_option maxHeartbeats 4000000
/-! The theorems across layers: what they begin with; TopThinnedGrid. -/
def pierT : Ga := ⟨⟨#[112, 105, 101, 114]⟩, 0, 5, [⟨10, 100⟩]⟩
theorem pier_redT : rdE [pierT] rawS = (⟨7, 0, 0, -455, -425⟩, 0) := by decide
theorem ev_three : Ev Tryz.prog 8 [] (.bool true) := by
  have h := ev_Reduce [pierT] rawS
  rw [pier_redT] at h
  refine ev_of_awp tysOk mixed (fn := Tryz.f8) Tryz.func8 rfl rfl rfl ?_
  conv => whnf
  repeat' (first
    | ((with_reducible refine Split.of_true ?_); conv => whnf)
    | ((with_reducible refine Split.of_false ?_); conv => whnf)
    | ((with_reducible refine Split.neg ?_))
    | ((with_reducible refine Split.is_true ?_ ?_); decide; conv => whnf)
    | ((with_reducible refine Split.is_false ?_ ?_); decide; conv => whnf)
    | ((with_reducible refine Split.nez (fun _ => ?_) (fun _ => ?_)) <;> conv => whnf)
    | ((with_reducible refine Split.eqz (fun _ => ?_) (fun _ => ?_)) <;> conv => whnf)
    | ((with_reducible refine Split.and ?_))
    | ((with_reducible refine Split.or ?_))
    | ((with_reducible refine Split.streq (fun _ => ?_) (fun _ => ?_)) <;> conv => whnf)
    | ((with_reducible refine Split.dec (fun _ => ?_) (fun _ => ?_)) <;> conv => whnf)
    | ((with_reducible refine Split.mk (fun _ => ?_) (fun _ => ?_)) <;> conv => whnf)
    | ((with_reducible refine NilK.mk (fun _ => ?_) ?_) <;> conv => whnf)
    | ((with_reducible refine AltK.l ?_); (conv => whnf); (with_reducible refine Need.mk ?_ ?_); (first | omega | (refine ⟨?_, ?_⟩ <;> simp <;> omega) | (simp; omega)); conv => whnf)
    | ((with_reducible refine Need.mk ?_ ?_); (first | omega | rfl | decide | (refine ⟨?_, ?_⟩ <;> simp <;> omega) | (simp; omega)); conv => whnf)
    | ((with_reducible refine Wr.quo ?_ ?_ ?_ ?_); omega; omega; omega; conv => whnf)
    | ((with_reducible refine Wr.inr ?_ ?_); (first | omega | (simp; omega)); conv => whnf)
    | ((with_reducible refine Wr.inu ?_ ?_); omega; conv => whnf)
    | ((with_reducible refine AltK.l ?_); (conv => whnf); (first | (refine CallK.mk _ (h) ?_)); conv => whnf)
    | (exfalso; first | omega | contradiction))
  rfl
/-- A cell of all soundings (L) and of the kept ones (K). -/
structure ThC (l : List Sg) (L K : Int) : Prop where
  u : L = 30000 → K = 30000
  le : L ≠ 30000 → K ≠ 30000 → K ≤ L
  ex : L ≠ 30000 → ∃ s ∈ l, s.hi = L
theorem th_cell {g : Gr} {l M : List Sg} (hM : ∀ s ∈ M, s ∈ l) (hb : badS g hiV l = false) {i : Nat} (hi : i < cellsN g) : ThC l ((maxO g hiV l (i : Int)).getD 30000) ((maxO g hiV M (i : Int)).getD 30000) := by
  have hb2 : badO (maxO g hiV l (i : Int)) = false := by
    rw [badS, List.any_eq_false] at hb
    have := hb i (List.mem_range.2 hi)
    simpa using this
  cases hm : maxO g hiV l (i : Int) with
  | none =>
    have hk : maxO g hiV M (i : Int) = none := by
      cases hk : maxO g hiV M (i : Int) with
      | none => rfl
      | some y =>
        obtain ⟨⟨s, hs, h1, _⟩, _⟩ := mx_some hk
        exact absurd h1 (mx_none hm s (hM s hs))
    rw [hk]
    exact ⟨fun _ => rfl, fun h => absurd rfl h, fun h => absurd rfl h⟩
  | some x =>
    rw [hm] at hb2
    obtain ⟨⟨s, hs, h1, h2⟩, h3⟩ := mx_some hm
    have hx : x ≠ 30000 := by
      rintro rfl
      have : outsideB 30000 (-20000) 20000 = true := by decide
      rw [badO, this] at hb2; cases hb2
    refine ⟨fun h => absurd h hx, fun _ h => ?_, fun _ => ⟨s, hs, h2⟩⟩
    cases hk : maxO g hiV M (i : Int) with
    | none => rw [hk] at h; exact absurd rfl h
    | some y =>
      obtain ⟨⟨t, ht, g1, g2⟩, _⟩ := mx_some hk
      have := h3 t (hM t ht) g1
      show y ≤ x
      rw [← g2]; exact this
theorem ev_TopThinnedGrid (l : List Sg) (g : Gr) (r : Int) : Ev Tryz.prog 3 [.sl 5 (l.map sgD), grD g, iD r] (.bool true) := by
  have hlen : (l.map sgD).length = l.length := List.length_map _
  have h0 := ev_CheckSR l
  have h1 := ev_CheckFrame g
  have h2 := ev_Within r 0 100000
  have h7 := ev_three
  by_cases good : chkErr sgB Sg.n l = 0 ∧ frErr g = 0
  · obtain ⟨c0, f0⟩ := good
    have hF := fr_ok f0
    have hal := hF.all
    rw [c0] at h0
    rw [f0] at h1
    cases ho : outsideB r 0 100000 with
    | true =>
      rw [ho] at h2
      refine ev_of_awp tysOk mixed (fn := Tryz.f3) Tryz.func3 rfl rfl rfl ?_
      conv => whnf
      repeat' (first
        | ((with_reducible refine Split.of_true ?_); conv => whnf)
        | ((with_reducible refine Split.of_false ?_); conv => whnf)
        | ((with_reducible refine Split.neg ?_))
        | ((with_reducible refine Split.is_true ?_ ?_); decide; conv => whnf)
        | ((with_reducible refine Split.is_false ?_ ?_); decide; conv => whnf)
        | ((with_reducible refine Split.nez (fun _ => ?_) (fun _ => ?_)) <;> conv => whnf)
        | ((with_reducible refine Split.eqz (fun _ => ?_) (fun _ => ?_)) <;> conv => whnf)
        | ((with_reducible refine Split.and ?_))
        | ((with_reducible refine Split.or ?_))
        | ((with_reducible refine Split.streq (fun _ => ?_) (fun _ => ?_)) <;> conv => whnf)
        | ((with_reducible refine Split.dec (fun _ => ?_) (fun _ => ?_)) <;> conv => whnf)
        | ((with_reducible refine Split.mk (fun _ => ?_) (fun _ => ?_)) <;> conv => whnf)
        | ((with_reducible refine NilK.mk (fun _ => ?_) ?_) <;> conv => whnf)
        | ((with_reducible refine AltK.l ?_); (conv => whnf); (with_reducible refine Need.mk ?_ ?_); (first | omega | (refine ⟨?_, ?_⟩ <;> simp <;> omega) | (simp; omega)); conv => whnf)
        | ((with_reducible refine Need.mk ?_ ?_); (first | omega | rfl | decide | (refine ⟨?_, ?_⟩ <;> simp <;> omega) | (simp; omega)); conv => whnf)
        | ((with_reducible refine Wr.quo ?_ ?_ ?_ ?_); omega; omega; omega; conv => whnf)
        | ((with_reducible refine Wr.inr ?_ ?_); (first | omega | (simp; omega)); conv => whnf)
        | ((with_reducible refine Wr.inu ?_ ?_); omega; conv => whnf)
        | ((with_reducible refine AltK.l ?_); (conv => whnf); (first | (refine CallK.mk _ (h0) ?_) | (refine CallK.mk _ (h1) ?_) | (refine CallK.mk _ (h2) ?_) | (refine CallK.mk _ (h7) ?_)); conv => whnf)
        | (exfalso; first | omega | contradiction))
      all_goals rfl
    | false =>
      rw [ho] at h2
      have hr : 0 ≤ r ∧ r ≤ 100000 := by simp [outsideB] at ho; omega
      have r0 : radB r = 0 := by
        have : outsideB r 0 2000000 = false := by simp [outsideB]; omega
        rw [radB, this]; rfl
      have hS := shoal c0 r0
      have h3 := ev_Thin l r
      obtain ⟨n1, n2⟩ := thin_len' l r
      have h4 := ev_Keep l (thinRes l r).1 (thinRes l r).2.1 (by omega)
      rw [hS.keep] at h4
      have hk5 := keep_len l (thinRes l r).1
      have hnear := hS.near
      have e3 := hS.e
      obtain ⟨hl5, hall, hu⟩ := chk_zero c0
      generalize thinRes l r = q at *
      obtain ⟨q1, q2, q3⟩ := q
      dsimp only at *
      subst e3
      have hpk : ∀ s ∈ keepS l q1, s ∈ l := fun s hs => (List.mem_filter.1 hs).1
      have hcM : chkErr sgB Sg.n (keepS l q1) = 0 := chk_part c0 List.filter_sublist
      generalize keepS l q1 = M at *
      have hM : (M.map sgD).length = M.length := List.length_map _
      replace h3 : Ev Tryz.prog 9 [.sl 5 (l.map sgD), iD r] (.tup [thD q1 q2, iD 0]) := h3
      replace h4 : Ev Tryz.prog 10 [.sl 5 (l.map sgD), thD q1 q2] (.tup [.sl 5 (M.map sgD), iD 0]) := h4
      have h5 := ev_BinS l g
      have h6 := ev_BinS M g
      rw [bin_ok c0 f0] at h5
      rw [bin_ok hcM f0] at h6
      cases y1 : badS g hiV l with
      | true =>
        rw [y1, if_pos rfl] at h5
        cases y2 : badS g hiV M with
        | true =>
          rw [y2, if_pos rfl] at h6
          refine ev_of_awp tysOk mixed (fn := Tryz.f3) Tryz.func3 rfl rfl rfl ?_
          conv => whnf
          repeat' (first
            | ((with_reducible refine Split.of_true ?_); conv => whnf)
            | ((with_reducible refine Split.of_false ?_); conv => whnf)
            | ((with_reducible refine Split.neg ?_))
            | ((with_reducible refine Split.is_true ?_ ?_); decide; conv => whnf)
            | ((with_reducible refine Split.is_false ?_ ?_); decide; conv => whnf)
            | ((with_reducible refine Split.nez (fun _ => ?_) (fun _ => ?_)) <;> conv => whnf)
            | ((with_reducible refine Split.eqz (fun _ => ?_) (fun _ => ?_)) <;> conv => whnf)
            | ((with_reducible refine Split.and ?_))
            | ((with_reducible refine Split.or ?_))
            | ((with_reducible refine Split.streq (fun _ => ?_) (fun _ => ?_)) <;> conv => whnf)
            | ((with_reducible refine Split.dec (fun _ => ?_) (fun _ => ?_)) <;> conv => whnf)
            | ((with_reducible refine Split.mk (fun _ => ?_) (fun _ => ?_)) <;> conv => whnf)
            | ((with_reducible refine NilK.mk (fun _ => ?_) ?_) <;> conv => whnf)
            | ((with_reducible refine AltK.l ?_); (conv => whnf); (with_reducible refine Need.mk ?_ ?_); (first | omega | (refine ⟨?_, ?_⟩ <;> simp <;> omega) | (simp; omega)); conv => whnf)
            | ((with_reducible refine Need.mk ?_ ?_); (first | omega | rfl | decide | (refine ⟨?_, ?_⟩ <;> simp <;> omega) | (simp; omega)); conv => whnf)
            | ((with_reducible refine Wr.quo ?_ ?_ ?_ ?_); omega; omega; omega; conv => whnf)
            | ((with_reducible refine Wr.inr ?_ ?_); (first | omega | (simp; omega)); conv => whnf)
            | ((with_reducible refine Wr.inu ?_ ?_); omega; conv => whnf)
            | ((with_reducible refine AltK.l ?_); (conv => whnf); (first | (refine CallK.mk _ (h0) ?_) | (refine CallK.mk _ (h1) ?_) | (refine CallK.mk _ (h2) ?_) | (refine CallK.mk _ (h3) ?_) | (refine CallK.mk _ (h4) ?_) | (refine CallK.mk _ (h5) ?_) | (refine CallK.mk _ (h6) ?_) | (refine CallK.mk _ (h7) ?_)); conv => whnf)
            | (exfalso; first | omega | contradiction))
          all_goals rfl
        | false =>
          rw [y2, if_neg (by decide)] at h6
          refine ev_of_awp tysOk mixed (fn := Tryz.f3) Tryz.func3 rfl rfl rfl ?_
          conv => whnf
          repeat' (first
            | ((with_reducible refine Split.of_true ?_); conv => whnf)
            | ((with_reducible refine Split.of_false ?_); conv => whnf)
            | ((with_reducible refine Split.neg ?_))
            | ((with_reducible refine Split.is_true ?_ ?_); decide; conv => whnf)
            | ((with_reducible refine Split.is_false ?_ ?_); decide; conv => whnf)
            | ((with_reducible refine Split.nez (fun _ => ?_) (fun _ => ?_)) <;> conv => whnf)
            | ((with_reducible refine Split.eqz (fun _ => ?_) (fun _ => ?_)) <;> conv => whnf)
            | ((with_reducible refine Split.and ?_))
            | ((with_reducible refine Split.or ?_))
            | ((with_reducible refine Split.streq (fun _ => ?_) (fun _ => ?_)) <;> conv => whnf)
            | ((with_reducible refine Split.dec (fun _ => ?_) (fun _ => ?_)) <;> conv => whnf)
            | ((with_reducible refine Split.mk (fun _ => ?_) (fun _ => ?_)) <;> conv => whnf)
            | ((with_reducible refine NilK.mk (fun _ => ?_) ?_) <;> conv => whnf)
            | ((with_reducible refine AltK.l ?_); (conv => whnf); (with_reducible refine Need.mk ?_ ?_); (first | omega | (refine ⟨?_, ?_⟩ <;> simp <;> omega) | (simp; omega)); conv => whnf)
            | ((with_reducible refine Need.mk ?_ ?_); (first | omega | rfl | decide | (refine ⟨?_, ?_⟩ <;> simp <;> omega) | (simp; omega)); conv => whnf)
            | ((with_reducible refine Wr.quo ?_ ?_ ?_ ?_); omega; omega; omega; conv => whnf)
            | ((with_reducible refine Wr.inr ?_ ?_); (first | omega | (simp; omega)); conv => whnf)
            | ((with_reducible refine Wr.inu ?_ ?_); omega; conv => whnf)
            | ((with_reducible refine AltK.l ?_); (conv => whnf); (first | (refine CallK.mk _ (h0) ?_) | (refine CallK.mk _ (h1) ?_) | (refine CallK.mk _ (h2) ?_) | (refine CallK.mk _ (h3) ?_) | (refine CallK.mk _ (h4) ?_) | (refine CallK.mk _ (h5) ?_) | (refine CallK.mk _ (h6) ?_) | (refine CallK.mk _ (h7) ?_)); conv => whnf)
            | (exfalso; first | omega | contradiction))
          all_goals rfl
      | false =>
        rw [y1, if_neg (by decide)] at h5
        cases y2 : badS g hiV M with
        | true =>
          rw [y2, if_pos rfl] at h6
          refine ev_of_awp tysOk mixed (fn := Tryz.f3) Tryz.func3 rfl rfl rfl ?_
          conv => whnf
          repeat' (first
            | ((with_reducible refine Split.of_true ?_); conv => whnf)
            | ((with_reducible refine Split.of_false ?_); conv => whnf)
            | ((with_reducible refine Split.neg ?_))
            | ((with_reducible refine Split.is_true ?_ ?_); decide; conv => whnf)
            | ((with_reducible refine Split.is_false ?_ ?_); decide; conv => whnf)
            | ((with_reducible refine Split.nez (fun _ => ?_) (fun _ => ?_)) <;> conv => whnf)
            | ((with_reducible refine Split.eqz (fun _ => ?_) (fun _ => ?_)) <;> conv => whnf)
            | ((with_reducible refine Split.and ?_))
            | ((with_reducible refine Split.or ?_))
            | ((with_reducible refine Split.streq (fun _ => ?_) (fun _ => ?_)) <;> conv => whnf)
            | ((with_reducible refine Split.dec (fun _ => ?_) (fun _ => ?_)) <;> conv => whnf)
            | ((with_reducible refine Split.mk (fun _ => ?_) (fun _ => ?_)) <;> conv => whnf)
            | ((with_reducible refine NilK.mk (fun _ => ?_) ?_) <;> conv => whnf)
            | ((with_reducible refine AltK.l ?_); (conv => whnf); (with_reducible refine Need.mk ?_ ?_); (first | omega | (refine ⟨?_, ?_⟩ <;> simp <;> omega) | (simp; omega)); conv => whnf)
            | ((with_reducible refine Need.mk ?_ ?_); (first | omega | rfl | decide | (refine ⟨?_, ?_⟩ <;> simp <;> omega) | (simp; omega)); conv => whnf)
            | ((with_reducible refine Wr.quo ?_ ?_ ?_ ?_); omega; omega; omega; conv => whnf)
            | ((with_reducible refine Wr.inr ?_ ?_); (first | omega | (simp; omega)); conv => whnf)
            | ((with_reducible refine Wr.inu ?_ ?_); omega; conv => whnf)
            | ((with_reducible refine AltK.l ?_); (conv => whnf); (first | (refine CallK.mk _ (h0) ?_) | (refine CallK.mk _ (h1) ?_) | (refine CallK.mk _ (h2) ?_) | (refine CallK.mk _ (h3) ?_) | (refine CallK.mk _ (h4) ?_) | (refine CallK.mk _ (h5) ?_) | (refine CallK.mk _ (h6) ?_) | (refine CallK.mk _ (h7) ?_)); conv => whnf)
            | (exfalso; first | omega | contradiction))
          all_goals rfl
        | false =>
          rw [y2, if_neg (by decide)] at h6
          replace h5 : Ev Tryz.prog 11 [.sl 5 (l.map sgD), grD g] (.tup [.agg [iD g.x, iD g.y, iD g.side, iD g.cols, iD g.rows, .sl 1 ((levS g hiV l).map iD)], iD 0]) := h5
          replace h6 : Ev Tryz.prog 11 [.sl 5 (M.map sgD), grD g] (.tup [.agg [iD g.x, iD g.y, iD g.side, iD g.cols, iD g.rows, .sl 1 ((levS g hiV M).map iD)], iD 0]) := h6
          have hNN : (cellsN g : Int) = g.cols * g.rows := by unfold cellsN; omega
          have hLl : ((levS g hiV l).map iD).length = cellsN g := by rw [List.length_map, lev_len]
          have hMl : ((levS g hiV M).map iD).length = cellsN g := by rw [List.length_map, lev_len]
          refine ev_of_awp tysOk mixed (fn := Tryz.f3) Tryz.func3 rfl rfl rfl ?_
          conv => whnf
          repeat' (first
            | ((with_reducible refine Split.of_true ?_); conv => whnf)
            | ((with_reducible refine Split.of_false ?_); conv => whnf)
            | ((with_reducible refine Split.neg ?_))
            | ((with_reducible refine Split.is_true ?_ ?_); decide; conv => whnf)
            | ((with_reducible refine Split.is_false ?_ ?_); decide; conv => whnf)
            | ((with_reducible refine Split.nez (fun _ => ?_) (fun _ => ?_)) <;> conv => whnf)
            | ((with_reducible refine Split.eqz (fun _ => ?_) (fun _ => ?_)) <;> conv => whnf)
            | ((with_reducible refine Split.and ?_))
            | ((with_reducible refine Split.or ?_))
            | ((with_reducible refine Split.streq (fun _ => ?_) (fun _ => ?_)) <;> conv => whnf)
            | ((with_reducible refine Split.dec (fun _ => ?_) (fun _ => ?_)) <;> conv => whnf)
            | ((with_reducible refine Split.mk (fun _ => ?_) (fun _ => ?_)) <;> conv => whnf)
            | ((with_reducible refine NilK.mk (fun _ => ?_) ?_) <;> conv => whnf)
            | ((with_reducible refine AltK.l ?_); (conv => whnf); (with_reducible refine Need.mk ?_ ?_); (first | omega | (refine ⟨?_, ?_⟩ <;> simp <;> omega) | (simp; omega)); conv => whnf)
            | ((with_reducible refine Need.mk ?_ ?_); (first | omega | rfl | decide | (refine ⟨?_, ?_⟩ <;> simp <;> omega) | (simp; omega)); conv => whnf)
            | ((with_reducible refine Wr.quo ?_ ?_ ?_ ?_); omega; omega; omega; conv => whnf)
            | ((with_reducible refine Wr.inr ?_ ?_); (first | omega | (simp; omega)); conv => whnf)
            | ((with_reducible refine Wr.inu ?_ ?_); omega; conv => whnf)
            | ((with_reducible refine AltK.l ?_); (conv => whnf); (first | (refine CallK.mk _ (h0) ?_) | (refine CallK.mk _ (h1) ?_) | (refine CallK.mk _ (h2) ?_) | (refine CallK.mk _ (h3) ?_) | (refine CallK.mk _ (h4) ?_) | (refine CallK.mk _ (h5) ?_) | (refine CallK.mk _ (h6) ?_) | (refine CallK.mk _ (h7) ?_)); conv => whnf)
            | (exfalso; first | omega | contradiction))
          · rfl
          · rfl
          refine LoopK.o2 (fun q : Nat × Int × Bool => q.1 ≤ M.length ∧ ∀ s ∈ M.take q.1, q.2.2 = true ∧ s.hi ≤ q.2.1) (fun q => [(15, .d (.int .i64 q.2.1)), (16, .d (.bool q.2.2)), (17, .d (.int .i64 q.1))]) (fun _ => []) (fun q => M.length - q.1) (0, 0, false) (by simp) (by refine ⟨?_, ?_, rfl⟩ <;> (repeat' (first | exact True.intro | exact rfl | refine ⟨?_, ?_⟩ | (intro h; cases h; done) | (intro h; exact h) | exact map_snoc | (refine own_congr ?_; simp; done) | (refine int_congr ?_; (first | omega | (simp; omega))) | (simp; done)))) ?_
          rintro ⟨i, most, any⟩ ⟨hi, hf⟩
          replace hi : i ≤ M.length := hi
          replace hf : ∀ s ∈ M.take i, any = true ∧ s.hi ≤ most := hf
          by_cases hiM : i < M.length
          · obtain ⟨s, hs⟩ := some_of_lt hiM
            have p1 : ((i, most, any) : Nat × Int × Bool).2.1 = most := rfl
            cases any with
            | true =>
              conv => whnf
              repeat' (first
                | ((refine PickE.map i hs (by omega) ?_); conv => whnf)
                | ((with_reducible refine Split.of_true ?_); conv => whnf)
                | ((with_reducible refine Split.of_false ?_); conv => whnf)
                | ((with_reducible refine Split.neg ?_))
                | ((with_reducible refine Split.is_true ?_ ?_); decide; conv => whnf)
                | ((with_reducible refine Split.is_false ?_ ?_); decide; conv => whnf)
                | ((with_reducible refine Split.nez (fun _ => ?_) (fun _ => ?_)) <;> conv => whnf)
                | ((with_reducible refine Split.eqz (fun _ => ?_) (fun _ => ?_)) <;> conv => whnf)
                | ((with_reducible refine Split.and ?_))
                | ((with_reducible refine Split.or ?_))
                | ((with_reducible refine Split.streq (fun _ => ?_) (fun _ => ?_)) <;> conv => whnf)
                | ((with_reducible refine Split.dec (fun _ => ?_) (fun _ => ?_)) <;> conv => whnf)
                | ((with_reducible refine Split.mk (fun _ => ?_) (fun _ => ?_)) <;> conv => whnf)
                | ((with_reducible refine NilK.mk (fun _ => ?_) ?_) <;> conv => whnf)
                | ((with_reducible refine AltK.l ?_); (conv => whnf); (with_reducible refine Need.mk ?_ ?_); (first | omega | (refine ⟨?_, ?_⟩ <;> simp <;> omega) | (simp; omega)); conv => whnf)
                | ((with_reducible refine Need.mk ?_ ?_); (first | omega | rfl | decide | (refine ⟨?_, ?_⟩ <;> simp <;> omega) | (simp; omega)); conv => whnf)
                | ((with_reducible refine Wr.quo ?_ ?_ ?_ ?_); omega; omega; omega; conv => whnf)
                | ((with_reducible refine Wr.inr ?_ ?_); (first | omega | (simp; omega)); conv => whnf)
                | ((with_reducible refine Wr.inu ?_ ?_); omega; conv => whnf)
                | (exfalso; first | omega | contradiction))
              · refine Again.au (i + 1, s.hi, true) ⟨by omega, fun t ht => ?_⟩ (by omega) (by refine ⟨?_, ?_, rfl⟩ <;> (repeat' (first | exact True.intro | exact rfl | refine ⟨?_, ?_⟩ | (intro h; cases h; done) | (intro h; exact h) | exact map_snoc | (refine own_congr ?_; simp; done) | (refine int_congr ?_; (first | omega | (simp; omega))) | (simp; done))))
                rw [take_snoc hs] at ht
                rcases List.mem_append.1 ht with ht | ht
                · have := hf t ht; exact ⟨rfl, by show t.hi ≤ s.hi; omega⟩
                · rw [List.mem_singleton.1 ht]; exact ⟨rfl, Int.le_refl _⟩
              · refine Again.au (i + 1, most, true) ⟨by omega, fun t ht => ?_⟩ (by omega) (by refine ⟨?_, ?_, rfl⟩ <;> (repeat' (first | exact True.intro | exact rfl | refine ⟨?_, ?_⟩ | (intro h; cases h; done) | (intro h; exact h) | exact map_snoc | (refine own_congr ?_; simp; done) | (refine int_congr ?_; (first | omega | (simp; omega))) | (simp; done))))
                rw [take_snoc hs] at ht
                rcases List.mem_append.1 ht with ht | ht
                · exact hf t ht
                · rw [List.mem_singleton.1 ht]; exact ⟨rfl, by show s.hi ≤ most; omega⟩
            | false =>
              conv => whnf
              repeat' (first
                | ((refine PickE.map i hs (by omega) ?_); conv => whnf)
                | ((with_reducible refine Split.of_true ?_); conv => whnf)
                | ((with_reducible refine Split.of_false ?_); conv => whnf)
                | ((with_reducible refine Split.neg ?_))
                | ((with_reducible refine Split.is_true ?_ ?_); decide; conv => whnf)
                | ((with_reducible refine Split.is_false ?_ ?_); decide; conv => whnf)
                | ((with_reducible refine Split.nez (fun _ => ?_) (fun _ => ?_)) <;> conv => whnf)
                | ((with_reducible refine Split.eqz (fun _ => ?_) (fun _ => ?_)) <;> conv => whnf)
                | ((with_reducible refine Split.and ?_))
                | ((with_reducible refine Split.or ?_))
                | ((with_reducible refine Split.streq (fun _ => ?_) (fun _ => ?_)) <;> conv => whnf)
                | ((with_reducible refine Split.dec (fun _ => ?_) (fun _ => ?_)) <;> conv => whnf)
                | ((with_reducible refine Split.mk (fun _ => ?_) (fun _ => ?_)) <;> conv => whnf)
                | ((with_reducible refine NilK.mk (fun _ => ?_) ?_) <;> conv => whnf)
                | ((with_reducible refine AltK.l ?_); (conv => whnf); (with_reducible refine Need.mk ?_ ?_); (first | omega | (refine ⟨?_, ?_⟩ <;> simp <;> omega) | (simp; omega)); conv => whnf)
                | ((with_reducible refine Need.mk ?_ ?_); (first | omega | rfl | decide | (refine ⟨?_, ?_⟩ <;> simp <;> omega) | (simp; omega)); conv => whnf)
                | ((with_reducible refine Wr.quo ?_ ?_ ?_ ?_); omega; omega; omega; conv => whnf)
                | ((with_reducible refine Wr.inr ?_ ?_); (first | omega | (simp; omega)); conv => whnf)
                | ((with_reducible refine Wr.inu ?_ ?_); omega; conv => whnf)
                | (exfalso; first | omega | contradiction))
              refine Again.au (i + 1, s.hi, true) ⟨by omega, fun t ht => ?_⟩ (by omega) (by refine ⟨?_, ?_, rfl⟩ <;> (repeat' (first | exact True.intro | exact rfl | refine ⟨?_, ?_⟩ | (intro h; cases h; done) | (intro h; exact h) | exact map_snoc | (refine own_congr ?_; simp; done) | (refine int_congr ?_; (first | omega | (simp; omega))) | (simp; done))))
              rw [take_snoc hs] at ht
              rcases List.mem_append.1 ht with ht | ht
              · have := hf t ht; exact ⟨rfl, absurd this.1 (by decide)⟩
              · rw [List.mem_singleton.1 ht]; exact ⟨rfl, Int.le_refl _⟩
          · rw [List.take_of_length_le (by omega)] at hf
            have p1 : ((i, most, any) : Nat × Int × Bool).2.1 = most := rfl
            have p2 : ((i, most, any) : Nat × Int × Bool).2.2 = any := rfl
            conv => whnf
            repeat' (first
              | ((with_reducible refine Split.of_true ?_); conv => whnf)
              | ((with_reducible refine Split.of_false ?_); conv => whnf)
              | ((with_reducible refine Split.neg ?_))
              | ((with_reducible refine Split.is_true ?_ ?_); decide; conv => whnf)
              | ((with_reducible refine Split.is_false ?_ ?_); decide; conv => whnf)
              | ((with_reducible refine Split.nez (fun _ => ?_) (fun _ => ?_)) <;> conv => whnf)
              | ((with_reducible refine Split.eqz (fun _ => ?_) (fun _ => ?_)) <;> conv => whnf)
              | ((with_reducible refine Split.and ?_))
              | ((with_reducible refine Split.or ?_))
              | ((with_reducible refine Split.streq (fun _ => ?_) (fun _ => ?_)) <;> conv => whnf)
              | ((with_reducible refine Split.dec (fun _ => ?_) (fun _ => ?_)) <;> conv => whnf)
              | ((with_reducible refine Split.mk (fun _ => ?_) (fun _ => ?_)) <;> conv => whnf)
              | ((with_reducible refine NilK.mk (fun _ => ?_) ?_) <;> conv => whnf)
              | ((with_reducible refine AltK.l ?_); (conv => whnf); (with_reducible refine Need.mk ?_ ?_); (first | omega | (refine ⟨?_, ?_⟩ <;> simp <;> omega) | (simp; omega)); conv => whnf)
              | ((with_reducible refine Need.mk ?_ ?_); (first | omega | rfl | decide | (refine ⟨?_, ?_⟩ <;> simp <;> omega) | (simp; omega)); conv => whnf)
              | ((with_reducible refine Wr.quo ?_ ?_ ?_ ?_); omega; omega; omega; conv => whnf)
              | ((with_reducible refine Wr.inr ?_ ?_); (first | omega | (simp; omega)); conv => whnf)
              | ((with_reducible refine Wr.inu ?_ ?_); omega; conv => whnf)
              | (exfalso; first | omega | contradiction))
            refine LoopK.o2 (fun i : Nat => i ≤ cellsN g) (fun i => [(18, .d (.int .i64 i))]) (fun _ => []) (fun i => cellsN g - i) 0 (by simp) (by refine ⟨?_, ?_, rfl⟩ <;> (repeat' (first | exact True.intro | exact rfl | refine ⟨?_, ?_⟩ | (intro h; cases h; done) | (intro h; exact h) | exact map_snoc | (refine own_congr ?_; simp; done) | (refine int_congr ?_; (first | omega | (simp; omega))) | (simp; done)))) ?_
            rintro j hj
            by_cases hjN : j < cellsN g
            · have hL := lev_get (g := g) (v := hiV) (l := l) hjN
              have hK := lev_get (g := g) (v := hiV) (l := M) hjN
              have hC := th_cell hpk y1 hjN
              generalize (maxO g hiV l (j : Int)).getD 30000 = L at *
              generalize (maxO g hiV M (j : Int)).getD 30000 = K at *
              obtain ⟨k1, k2, k3⟩ := hC
              by_cases hL3 : L = 30000
              · have k1 := k1 hL3
                conv => whnf
                repeat' (first
                  | ((refine PickE.map j hK (by omega) ?_); conv => whnf)
                  | ((refine PickE.map j hL (by omega) ?_); conv => whnf)
                  | ((with_reducible refine Split.of_true ?_); conv => whnf)
                  | ((with_reducible refine Split.of_false ?_); conv => whnf)
                  | ((with_reducible refine Split.neg ?_))
                  | ((with_reducible refine Split.is_true ?_ ?_); decide; conv => whnf)
                  | ((with_reducible refine Split.is_false ?_ ?_); decide; conv => whnf)
                  | ((with_reducible refine Split.nez (fun _ => ?_) (fun _ => ?_)) <;> conv => whnf)
                  | ((with_reducible refine Split.eqz (fun _ => ?_) (fun _ => ?_)) <;> conv => whnf)
                  | ((with_reducible refine Split.and ?_))
                  | ((with_reducible refine Split.or ?_))
                  | ((with_reducible refine Split.streq (fun _ => ?_) (fun _ => ?_)) <;> conv => whnf)
                  | ((with_reducible refine Split.dec (fun _ => ?_) (fun _ => ?_)) <;> conv => whnf)
                  | ((with_reducible refine Split.mk (fun _ => ?_) (fun _ => ?_)) <;> conv => whnf)
                  | ((with_reducible refine NilK.mk (fun _ => ?_) ?_) <;> conv => whnf)
                  | ((with_reducible refine AltK.l ?_); (conv => whnf); (with_reducible refine Need.mk ?_ ?_); (first | omega | (refine ⟨?_, ?_⟩ <;> simp <;> omega) | (simp; omega)); conv => whnf)
                  | ((with_reducible refine Need.mk ?_ ?_); (first | omega | rfl | decide | (refine ⟨?_, ?_⟩ <;> simp <;> omega) | (simp; omega)); conv => whnf)
                  | ((with_reducible refine Wr.quo ?_ ?_ ?_ ?_); omega; omega; omega; conv => whnf)
                  | ((with_reducible refine Wr.inr ?_ ?_); (first | omega | (simp; omega)); conv => whnf)
                  | ((with_reducible refine Wr.inu ?_ ?_); omega; conv => whnf)
                  | (exfalso; first | omega | contradiction))
                all_goals first
                  | exact Again.au (j + 1) (by omega) (by omega) (by refine ⟨?_, ?_, rfl⟩ <;> (repeat' (first | exact True.intro | exact rfl | refine ⟨?_, ?_⟩ | (intro h; cases h; done) | (intro h; exact h) | exact map_snoc | (refine own_congr ?_; simp; done) | (refine int_congr ?_; (first | omega | (simp; omega))) | (simp; done))))
                  | (exfalso; omega)
              · obtain ⟨s, hsl, hse⟩ := k3 hL3
                obtain ⟨k, hk, hk1, _⟩ := hnear s hsl
                obtain ⟨ha, hm⟩ := hf k hk
                subst ha
                have k2 := k2 hL3
                conv => whnf
                repeat' (first
                  | ((refine PickE.map j hK (by omega) ?_); conv => whnf)
                  | ((refine PickE.map j hL (by omega) ?_); conv => whnf)
                  | ((with_reducible refine Split.of_true ?_); conv => whnf)
                  | ((with_reducible refine Split.of_false ?_); conv => whnf)
                  | ((with_reducible refine Split.neg ?_))
                  | ((with_reducible refine Split.is_true ?_ ?_); decide; conv => whnf)
                  | ((with_reducible refine Split.is_false ?_ ?_); decide; conv => whnf)
                  | ((with_reducible refine Split.nez (fun _ => ?_) (fun _ => ?_)) <;> conv => whnf)
                  | ((with_reducible refine Split.eqz (fun _ => ?_) (fun _ => ?_)) <;> conv => whnf)
                  | ((with_reducible refine Split.and ?_))
                  | ((with_reducible refine Split.or ?_))
                  | ((with_reducible refine Split.streq (fun _ => ?_) (fun _ => ?_)) <;> conv => whnf)
                  | ((with_reducible refine Split.dec (fun _ => ?_) (fun _ => ?_)) <;> conv => whnf)
                  | ((with_reducible refine Split.mk (fun _ => ?_) (fun _ => ?_)) <;> conv => whnf)
                  | ((with_reducible refine NilK.mk (fun _ => ?_) ?_) <;> conv => whnf)
                  | ((with_reducible refine AltK.l ?_); (conv => whnf); (with_reducible refine Need.mk ?_ ?_); (first | omega | (refine ⟨?_, ?_⟩ <;> simp <;> omega) | (simp; omega)); conv => whnf)
                  | ((with_reducible refine Need.mk ?_ ?_); (first | omega | rfl | decide | (refine ⟨?_, ?_⟩ <;> simp <;> omega) | (simp; omega)); conv => whnf)
                  | ((with_reducible refine Wr.quo ?_ ?_ ?_ ?_); omega; omega; omega; conv => whnf)
                  | ((with_reducible refine Wr.inr ?_ ?_); (first | omega | (simp; omega)); conv => whnf)
                  | ((with_reducible refine Wr.inu ?_ ?_); omega; conv => whnf)
                  | (exfalso; first | omega | contradiction))
                all_goals first
                  | exact Again.au (j + 1) (by omega) (by omega) (by refine ⟨?_, ?_, rfl⟩ <;> (repeat' (first | exact True.intro | exact rfl | refine ⟨?_, ?_⟩ | (intro h; cases h; done) | (intro h; exact h) | exact map_snoc | (refine own_congr ?_; simp; done) | (refine int_congr ?_; (first | omega | (simp; omega))) | (simp; done))))
                  | (exfalso; omega)
            · conv => whnf
              repeat' (first
                | ((with_reducible refine Split.of_true ?_); conv => whnf)
                | ((with_reducible refine Split.of_false ?_); conv => whnf)
                | ((with_reducible refine Split.neg ?_))
                | ((with_reducible refine Split.is_true ?_ ?_); decide; conv => whnf)
                | ((with_reducible refine Split.is_false ?_ ?_); decide; conv => whnf)
                | ((with_reducible refine Split.nez (fun _ => ?_) (fun _ => ?_)) <;> conv => whnf)
                | ((with_reducible refine Split.eqz (fun _ => ?_) (fun _ => ?_)) <;> conv => whnf)
                | ((with_reducible refine Split.and ?_))
                | ((with_reducible refine Split.or ?_))
                | ((with_reducible refine Split.streq (fun _ => ?_) (fun _ => ?_)) <;> conv => whnf)
                | ((with_reducible refine Split.dec (fun _ => ?_) (fun _ => ?_)) <;> conv => whnf)
                | ((with_reducible refine Split.mk (fun _ => ?_) (fun _ => ?_)) <;> conv => whnf)
                | ((with_reducible refine NilK.mk (fun _ => ?_) ?_) <;> conv => whnf)
                | ((with_reducible refine AltK.l ?_); (conv => whnf); (with_reducible refine Need.mk ?_ ?_); (first | omega | (refine ⟨?_, ?_⟩ <;> simp <;> omega) | (simp; omega)); conv => whnf)
                | ((with_reducible refine Need.mk ?_ ?_); (first | omega | rfl | decide | (refine ⟨?_, ?_⟩ <;> simp <;> omega) | (simp; omega)); conv => whnf)
                | ((with_reducible refine Wr.quo ?_ ?_ ?_ ?_); omega; omega; omega; conv => whnf)
                | ((with_reducible refine Wr.inr ?_ ?_); (first | omega | (simp; omega)); conv => whnf)
                | ((with_reducible refine Wr.inu ?_ ?_); omega; conv => whnf)
                | ((with_reducible refine AltK.l ?_); (conv => whnf); (first | (refine CallK.mk _ (h7) ?_)); conv => whnf)
                | (exfalso; first | omega | contradiction))
              rfl
  · refine ev_of_awp tysOk mixed (fn := Tryz.f3) Tryz.func3 rfl rfl rfl ?_
    conv => whnf
    repeat' (first
      | ((with_reducible refine Split.of_true ?_); conv => whnf)
      | ((with_reducible refine Split.of_false ?_); conv => whnf)
      | ((with_reducible refine Split.neg ?_))
      | ((with_reducible refine Split.is_true ?_ ?_); decide; conv => whnf)
      | ((with_reducible refine Split.is_false ?_ ?_); decide; conv => whnf)
      | ((with_reducible refine Split.nez (fun _ => ?_) (fun _ => ?_)) <;> conv => whnf)
      | ((with_reducible refine Split.eqz (fun _ => ?_) (fun _ => ?_)) <;> conv => whnf)
      | ((with_reducible refine Split.and ?_))
      | ((with_reducible refine Split.or ?_))
      | ((with_reducible refine Split.streq (fun _ => ?_) (fun _ => ?_)) <;> conv => whnf)
      | ((with_reducible refine Split.dec (fun _ => ?_) (fun _ => ?_)) <;> conv => whnf)
      | ((with_reducible refine Split.mk (fun _ => ?_) (fun _ => ?_)) <;> conv => whnf)
      | ((with_reducible refine NilK.mk (fun _ => ?_) ?_) <;> conv => whnf)
      | ((with_reducible refine AltK.l ?_); (conv => whnf); (with_reducible refine Need.mk ?_ ?_); (first | omega | (refine ⟨?_, ?_⟩ <;> simp <;> omega) | (simp; omega)); conv => whnf)
      | ((with_reducible refine Need.mk ?_ ?_); (first | omega | rfl | decide | (refine ⟨?_, ?_⟩ <;> simp <;> omega) | (simp; omega)); conv => whnf)
      | ((with_reducible refine Wr.quo ?_ ?_ ?_ ?_); omega; omega; omega; conv => whnf)
      | ((with_reducible refine Wr.inr ?_ ?_); (first | omega | (simp; omega)); conv => whnf)
      | ((with_reducible refine Wr.inu ?_ ?_); omega; conv => whnf)
      | ((with_reducible refine AltK.l ?_); (conv => whnf); (first | (refine CallK.mk _ (h0) ?_) | (refine CallK.mk _ (h1) ?_) | (refine CallK.mk _ (h2) ?_) | (refine CallK.mk _ (h7) ?_)); conv => whnf)
      | (exfalso; first | omega | contradiction))
    all_goals first | rfl | (exfalso; omega)
end Go.Proofs.Tryz
end
