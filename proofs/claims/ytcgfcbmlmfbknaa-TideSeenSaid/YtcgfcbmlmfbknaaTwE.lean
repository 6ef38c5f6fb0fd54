import Derived.Test.YtcgfcbmlmfbknaaTwD
namespace Go.Proofs.Try
open Go Go.Vm
set_option maxRecDepth 20000
set_option maxHeartbeats 2000000
def straightB (a m b : Mk) : Bool := (m.l - a.l) * (b.m - a.m) == (b.l - a.l) * (m.m - a.m)
theorem ev_straight (a m b : Mk) (ha : wrongB a.m a.l = false) (hm : wrongB m.m m.l = false) (hb : wrongB b.m b.l = false) :
   Ev Try.prog 69 [mD a, mD m, mD b] (.bool (straightB a m b)) := by
  have h1 := wrongB_false ha
  have h2 := wrongB_false hm
  have h3 := wrongB_false hb
  have e1 := mul_bd (x := m.l - a.l) (y := b.m - a.m) (X := 40000) (Y := 1000000) (by omega) (by omega)
  have e2 := mul_bd (x := b.l - a.l) (y := m.m - a.m) (X := 40000) (Y := 1000000) (by omega) (by omega)
  refine ev_of_awp tysOk mixed (fn := Try.f69) Try.func69 rfl rfl rfl ?_
  conv => whnf
  repeat' (first
    | ((with_reducible refine Split.of_true ?_); conv => whnf)
    | ((with_reducible refine Split.of_false ?_); conv => whnf)
    | ((with_reducible refine Split.neg ?_))
    | ((with_reducible refine Split.is_true ?_ ?_); decide; conv => whnf)
    | ((with_reducible refine Split.is_false ?_ ?_); decide; conv => whnf)
    | ((with_reducible refine Split.nez (fun _ => ?_) (fun _ => ?_)) <;> conv => whnf)
    | ((with_reducible refine Split.eqz (fun _ => ?_) (fun _ => ?_)) <;> conv => whnf)
    | ((with_reducible refine Split.and ?_))
    | ((with_reducible refine Split.or ?_))
    | ((with_reducible refine Split.streq (fun _ => ?_) (fun _ => ?_)) <;> conv => whnf)
    | ((with_reducible refine Split.dec (fun _ => ?_) (fun _ => ?_)) <;> conv => whnf)
    | ((with_reducible refine Split.mk (fun _ => ?_) (fun _ => ?_)) <;> conv => whnf)
    | ((with_reducible refine Need.mk ?_ ?_); (first | omega | rfl | decide | (refine ⟨?_, ?_⟩ <;> simp <;> omega) | (simp; omega)); conv => whnf)
    | ((with_reducible refine Wr.inr ?_ ?_); (first | omega | (simp; omega)); conv => whnf)
    | ((with_reducible refine Wr.inu ?_ ?_); omega; conv => whnf)
    | (exfalso; first | omega | contradiction))
  rfl
def simpGo : Option Mk → List Mk → List Mk
  | _, [] => []
  | none, m :: r => m :: simpGo (some m) r
  | some _, [m] => [m]
  | some a, m :: b :: r => if straightB a m b then simpGo (some a) (b :: r) else m :: simpGo (some m) (b :: r)
theorem ev_with (g : Ga) (l : List Mk) : Ev Try.prog 70 [gD g, .sl 2 (l.map mD)] (gD { g with marks := l }) := by
  refine ev_of_awp tysOk mixed (fn := Try.f70) Try.func70 rfl rfl rfl ?_
  conv => whnf
  repeat' (first
    | ((with_reducible refine Split.of_true ?_); conv => whnf)
    | ((with_reducible refine Split.of_false ?_); conv => whnf)
    | ((with_reducible refine Split.neg ?_))
    | ((with_reducible refine Split.is_true ?_ ?_); decide; conv => whnf)
    | ((with_reducible refine Split.is_false ?_ ?_); decide; conv => whnf)
    | ((with_reducible refine Split.nez (fun _ => ?_) (fun _ => ?_)) <;> conv => whnf)
    | ((with_reducible refine Split.eqz (fun _ => ?_) (fun _ => ?_)) <;> conv => whnf)
    | ((with_reducible refine Split.and ?_))
    | ((with_reducible refine Split.or ?_))
    | ((with_reducible refine Split.streq (fun _ => ?_) (fun _ => ?_)) <;> conv => whnf)
    | ((with_reducible refine Split.dec (fun _ => ?_) (fun _ => ?_)) <;> conv => whnf)
    | ((with_reducible refine Split.mk (fun _ => ?_) (fun _ => ?_)) <;> conv => whnf)
    | ((with_reducible refine Need.mk ?_ ?_); (first | omega | rfl | decide | (refine ⟨?_, ?_⟩ <;> simp <;> omega) | (simp; omega)); conv => whnf)
    | ((with_reducible refine Wr.inr ?_ ?_); (first | omega | (simp; omega)); conv => whnf)
    | ((with_reducible refine Wr.inu ?_ ?_); omega; conv => whnf)
    | (exfalso; first | omega | contradiction))
  rfl
theorem ev_Simplify (g : Ga) (h : gErr g = 0) : Ev Try.prog 21 [gD g] (.tup [gD { g with marks := simpGo none g.marks }, .int .i64 0]) := by
  have hlen : (g.marks.map mD).length = g.marks.length := List.length_map _
  have hG := good_of h
  have hl := hG.len
  refine ev_of_awp tysOk mixed (fn := Try.f21) Try.func21 rfl rfl rfl ?_
  conv => whnf
  repeat' (first
    | ((with_reducible refine Split.of_true ?_); conv => whnf)
    | ((with_reducible refine Split.of_false ?_); conv => whnf)
    | ((with_reducible refine Split.neg ?_))
    | ((with_reducible refine Split.is_true ?_ ?_); decide; conv => whnf)
    | ((with_reducible refine Split.is_false ?_ ?_); decide; conv => whnf)
    | ((with_reducible refine Split.nez (fun _ => ?_) (fun _ => ?_)) <;> conv => whnf)
    | ((with_reducible refine Split.eqz (fun _ => ?_) (fun _ => ?_)) <;> conv => whnf)
    | ((with_reducible refine Split.and ?_))
    | ((with_reducible refine Split.or ?_))
    | ((with_reducible refine Split.streq (fun _ => ?_) (fun _ => ?_)) <;> conv => whnf)
    | ((with_reducible refine Split.dec (fun _ => ?_) (fun _ => ?_)) <;> conv => whnf)
    | ((with_reducible refine Split.mk (fun _ => ?_) (fun _ => ?_)) <;> conv => whnf)
    | ((with_reducible refine Need.mk ?_ ?_); (first | omega | rfl | decide | (refine ⟨?_, ?_⟩ <;> simp <;> omega) | (simp; omega)); conv => whnf)
    | ((with_reducible refine Wr.inr ?_ ?_); (first | omega | (simp; omega)); conv => whnf)
    | ((with_reducible refine Wr.inu ?_ ?_); omega; conv => whnf)
    | (refine CallK.mk _ (ev_CheckGauge g) ?_; conv => whnf)
    | (exfalso; first | omega | contradiction))
  refine LoopK.ov (fun x : Nat × List Mk => x.1 ≤ g.marks.length ∧ x.2.length ≤ x.1 ∧ simpGo none g.marks = x.2 ++ simpGo x.2.getLast? (g.marks.drop x.1) ∧ (x.2 = [] → x.1 = 0) ∧ ∀ m ∈ x.2, m ∈ g.marks)
    (fun x => [(5, .own 200 2 x.2.length), (17, .d (.int .i64 x.1))]) [] (fun x => [(200, .row 48 2 (x.2.map mD) false)])
    (fun x => g.marks.length - x.1) (0, []) (by simp) ⟨by (repeat' (first | exact True.intro | exact rfl | refine ⟨?_, ?_⟩ | (intro h; cases h; done) | (intro h; exact h) | exact map_snoc | (refine own_congr ?_; simp; done) | (refine int_congr ?_; (first | omega | (simp; omega))) | (simp; done))), by (repeat' (first | exact True.intro | exact rfl | refine ⟨?_, ?_⟩ | (intro h; cases h; done) | (intro h; exact h) | exact map_snoc | (refine own_congr ?_; simp; done) | (refine int_congr ?_; (first | omega | (simp; omega))) | (simp; done))), rfl⟩ ?_
  rintro ⟨i, out⟩ ⟨hi, hol, hs, h0, hmem⟩
  dsimp only at hi hs h0 hmem hol ⊢
  have hn : (i : Int) < g.marks.length → ∃ m, g.marks[i]? = some m := fun h => some_of_lt (by omega)
  conv => whnf
  repeat' (first
    | ((with_reducible refine Split.of_true ?_); conv => whnf)
    | ((with_reducible refine Split.of_false ?_); conv => whnf)
    | ((with_reducible refine Split.neg ?_))
    | ((with_reducible refine Split.is_true ?_ ?_); decide; conv => whnf)
    | ((with_reducible refine Split.is_false ?_ ?_); decide; conv => whnf)
    | ((with_reducible refine Split.nez (fun _ => ?_) (fun _ => ?_)) <;> conv => whnf)
    | ((with_reducible refine Split.eqz (fun _ => ?_) (fun _ => ?_)) <;> conv => whnf)
    | ((with_reducible refine Split.and ?_))
    | ((with_reducible refine Split.or ?_))
    | ((with_reducible refine Split.streq (fun _ => ?_) (fun _ => ?_)) <;> conv => whnf)
    | ((with_reducible refine Split.dec (fun _ => ?_) (fun _ => ?_)) <;> conv => whnf)
    | ((with_reducible refine Split.mk (fun _ => ?_) (fun _ => ?_)) <;> conv => whnf)
    | ((with_reducible refine Need.mk ?_ ?_); (first | omega | rfl | decide | (refine ⟨?_, ?_⟩ <;> simp <;> omega) | (simp; omega)); conv => whnf)
    | ((with_reducible refine Wr.inr ?_ ?_); (first | omega | (simp; omega)); conv => whnf)
    | ((with_reducible refine Wr.inu ?_ ?_); omega; conv => whnf)
    | (exfalso; first | omega | contradiction))
  · obtain ⟨m, hm⟩ := hn (by omega)
    refine PickE.map i hm (by omega) ?_
    have hd := drop_of hm
    have hmo := hG.ok m (List.mem_of_getElem? hm)
    conv => whnf
    repeat' (first
      | ((with_reducible refine Split.of_true ?_); conv => whnf)
      | ((with_reducible refine Split.of_false ?_); conv => whnf)
      | ((with_reducible refine Split.neg ?_))
      | ((with_reducible refine Split.is_true ?_ ?_); decide; conv => whnf)
      | ((with_reducible refine Split.is_false ?_ ?_); decide; conv => whnf)
      | ((with_reducible refine Split.nez (fun _ => ?_) (fun _ => ?_)) <;> conv => whnf)
      | ((with_reducible refine Split.eqz (fun _ => ?_) (fun _ => ?_)) <;> conv => whnf)
      | ((with_reducible refine Split.and ?_))
      | ((with_reducible refine Split.or ?_))
      | ((with_reducible refine Split.streq (fun _ => ?_) (fun _ => ?_)) <;> conv => whnf)
      | ((with_reducible refine Split.dec (fun _ => ?_) (fun _ => ?_)) <;> conv => whnf)
      | ((with_reducible refine Split.mk (fun _ => ?_) (fun _ => ?_)) <;> conv => whnf)
      | ((with_reducible refine Need.mk ?_ ?_); (first | omega | rfl | decide | (refine ⟨?_, ?_⟩ <;> simp <;> omega) | (simp; omega)); conv => whnf)
      | ((with_reducible refine Wr.inr ?_ ?_); (first | omega | (simp; omega)); conv => whnf)
      | ((with_reducible refine Wr.inu ?_ ?_); omega; conv => whnf)
      | (exfalso; first | omega | contradiction))
    · obtain ⟨b, hb⟩ := some_of_lt (l := g.marks) (i := i + 1) (by omega)
      rcases nil_or_snoc out with rfl | ⟨o, a, rfl⟩
      · have := h0 rfl; omega
      have hol : o.length + 1 ≤ i := by simpa using hol
      have hd2 := drop_of hb
      have ha : (o ++ [a])[o.length]? = some a := by simp
      rw [hd, hd2] at hs
      have hao := hG.ok a (hmem a (by simp))
      have hbo := hG.ok b (List.mem_of_getElem? hb)
      conv => whnf
      repeat' (first
        | ((refine PickE.map (i + 1) hb (by omega) ?_); conv => whnf)
        | ((refine PickE.map o.length ha (by simp) ?_); conv => whnf)
        | ((with_reducible refine Split.of_true ?_); conv => whnf)
        | ((with_reducible refine Split.of_false ?_); conv => whnf)
        | ((with_reducible refine Split.neg ?_))
        | ((with_reducible refine Split.is_true ?_ ?_); decide; conv => whnf)
        | ((with_reducible refine Split.is_false ?_ ?_); decide; conv => whnf)
        | ((with_reducible refine Split.nez (fun _ => ?_) (fun _ => ?_)) <;> conv => whnf)
        | ((with_reducible refine Split.eqz (fun _ => ?_) (fun _ => ?_)) <;> conv => whnf)
        | ((with_reducible refine Split.and ?_))
        | ((with_reducible refine Split.or ?_))
        | ((with_reducible refine Split.streq (fun _ => ?_) (fun _ => ?_)) <;> conv => whnf)
        | ((with_reducible refine Split.dec (fun _ => ?_) (fun _ => ?_)) <;> conv => whnf)
        | ((with_reducible refine Split.mk (fun _ => ?_) (fun _ => ?_)) <;> conv => whnf)
        | ((with_reducible refine Need.mk ?_ ?_); (first | omega | rfl | decide | (refine ⟨?_, ?_⟩ <;> simp <;> omega) | (simp; omega)); conv => whnf)
        | ((with_reducible refine Wr.inr ?_ ?_); (first | omega | (simp; omega)); conv => whnf)
        | ((with_reducible refine Wr.inu ?_ ?_); omega; conv => whnf)
        | (refine CallK.mk _ (ev_straight _ _ _ hao hmo hbo) ?_; conv => whnf)
        | (exfalso; first | omega | contradiction))
      · refine Again.au (i + 1, o ++ [a]) ⟨by omega, by simp; omega, ?_, ?_, hmem⟩ (by dsimp only; omega) ⟨by (repeat' (first | exact True.intro | exact rfl | refine ⟨?_, ?_⟩ | (intro h; cases h; done) | (intro h; exact h) | exact map_snoc | (refine own_congr ?_; simp; done) | (refine int_congr ?_; (first | omega | (simp; omega))) | (simp; done))), by (repeat' (first | exact True.intro | exact rfl | refine ⟨?_, ?_⟩ | (intro h; cases h; done) | (intro h; exact h) | exact map_snoc | (refine own_congr ?_; simp; done) | (refine int_congr ?_; (first | omega | (simp; omega))) | (simp; done))), rfl⟩
        · rw [hs, hd2]; simp_all [simpGo]
        · simp
      · refine Again.au (i + 1, o ++ [a] ++ [m]) ⟨by omega, ?_, ?_, ?_, ?_⟩ (by dsimp only; omega) ⟨by (repeat' (first | exact True.intro | exact rfl | refine ⟨?_, ?_⟩ | (intro h; cases h; done) | (intro h; exact h) | exact map_snoc | (refine own_congr ?_; simp; done) | (refine int_congr ?_; (first | omega | (simp; omega))) | (simp; done))), by (repeat' (first | exact True.intro | exact rfl | refine ⟨?_, ?_⟩ | (intro h; cases h; done) | (intro h; exact h) | exact map_snoc | (refine own_congr ?_; simp; done) | (refine int_congr ?_; (first | omega | (simp; omega))) | (simp; done))), rfl⟩
        · simp; omega
        · rw [hs, hd2]; simp_all [simpGo]
        · simp
        · intro x hx
          rcases List.mem_append.1 hx with hx | hx
          · exact hmem x hx
          · rw [List.mem_singleton.1 hx]; exact List.mem_of_getElem? hm
    · have hd2 : g.marks.drop (i + 1) = [] := List.drop_eq_nil_of_le (by omega)
      rcases nil_or_snoc out with rfl | ⟨o, a, rfl⟩
      · have := h0 rfl; omega
      have hol : o.length + 1 ≤ i := by simpa using hol
      rw [hd, hd2] at hs
      refine Again.au (i + 1, o ++ [a] ++ [m]) ⟨by omega, ?_, ?_, ?_, ?_⟩ (by dsimp only; omega) ⟨by (repeat' (first | exact True.intro | exact rfl | refine ⟨?_, ?_⟩ | (intro h; cases h; done) | (intro h; exact h) | exact map_snoc | (refine own_congr ?_; simp; done) | (refine int_congr ?_; (first | omega | (simp; omega))) | (simp; done))), by (repeat' (first | exact True.intro | exact rfl | refine ⟨?_, ?_⟩ | (intro h; cases h; done) | (intro h; exact h) | exact map_snoc | (refine own_congr ?_; simp; done) | (refine int_congr ?_; (first | omega | (simp; omega))) | (simp; done))), rfl⟩
      · simp; omega
      · rw [hs, hd2]; simp [simpGo]
      · simp
      · intro x hx
        rcases List.mem_append.1 hx with hx | hx
        · exact hmem x hx
        · rw [List.mem_singleton.1 hx]; exact List.mem_of_getElem? hm
    · have : i = 0 := by omega
      subst this
      have : out = [] := List.eq_nil_of_length_eq_zero (by omega)
      subst this
      rw [hd] at hs
      refine Again.au (0 + 1, [] ++ [m]) ⟨by omega, by simp, ?_, by simp, ?_⟩ (by dsimp only; omega) ⟨by (repeat' (first | exact True.intro | exact rfl | refine ⟨?_, ?_⟩ | (intro h; cases h; done) | (intro h; exact h) | exact map_snoc | (refine own_congr ?_; simp; done) | (refine int_congr ?_; (first | omega | (simp; omega))) | (simp; done))), by (repeat' (first | exact True.intro | exact rfl | refine ⟨?_, ?_⟩ | (intro h; cases h; done) | (intro h; exact h) | exact map_snoc | (refine own_congr ?_; simp; done) | (refine int_congr ?_; (first | omega | (simp; omega))) | (simp; done))), rfl⟩
      · rw [hs]; simp [simpGo]
      · intro x hx
        simp at hx; subst hx; exact List.mem_of_getElem? hm
  · have hd : g.marks.drop i = [] := List.drop_eq_nil_of_le (by omega)
    rw [hd] at hs
    have hs : simpGo none g.marks = out := by rw [hs]; cases out.getLast? <;> simp [simpGo]
    conv => whnf
    repeat' (first
      | ((with_reducible refine Split.of_true ?_); conv => whnf)
      | ((with_reducible refine Split.of_false ?_); conv => whnf)
      | ((with_reducible refine Split.neg ?_))
      | ((with_reducible refine Split.is_true ?_ ?_); decide; conv => whnf)
      | ((with_reducible refine Split.is_false ?_ ?_); decide; conv => whnf)
      | ((with_reducible refine Split.nez (fun _ => ?_) (fun _ => ?_)) <;> conv => whnf)
      | ((with_reducible refine Split.eqz (fun _ => ?_) (fun _ => ?_)) <;> conv => whnf)
      | ((with_reducible refine Split.and ?_))
      | ((with_reducible refine Split.or ?_))
      | ((with_reducible refine Split.streq (fun _ => ?_) (fun _ => ?_)) <;> conv => whnf)
      | ((with_reducible refine Split.dec (fun _ => ?_) (fun _ => ?_)) <;> conv => whnf)
      | ((with_reducible refine Split.mk (fun _ => ?_) (fun _ => ?_)) <;> conv => whnf)
      | ((with_reducible refine Need.mk ?_ ?_); (first | omega | rfl | decide | (refine ⟨?_, ?_⟩ <;> simp <;> omega) | (simp; omega)); conv => whnf)
      | ((with_reducible refine Wr.inr ?_ ?_); (first | omega | (simp; omega)); conv => whnf)
      | ((with_reducible refine Wr.inu ?_ ?_); omega; conv => whnf)
      | (refine CallK.mk _ (ev_with g out) ?_; conv => whnf)
      | (exfalso; first | omega | contradiction))
    rw [hs]; rfl
end Go.Proofs.Try
