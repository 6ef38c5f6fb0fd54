/- Texts SdH LyG LyI SdI SdJ SdP TwZ SdK SdL SdQ SdT SdN, joined; what is not needed is left out. -/
import Derived.Test.YtkkngciaphfifaaGreatMpc
import Derived.Test.YtkkngciaphfifaaGreatProg
import Derived.Test.YtkkngciaphfifaaGreatMgI
import Derived.Shelf.SlLaysF0
import Derived.Shelf.Lays
import Derived.Test.YtkkngciaphfifaaGreatMpa
import Derived.Test.YtkkngciaphfifaaGreatMgJ
section
namespace Go.Proofs.Tryz
open Go Go.Vm
set_option maxRecDepth 20000
set_option maxHeartbeats 2000000
theorem xv_delS0 (l : List Sg) (f : Nat) (caps : List D) (p : Sg → Bool) (hn : l.length ≤ 1000000) (hf : ∀ g ∈ l, Ev Tryz.prog f ([sgD g] ++ caps) (.bool (p g))) (h0 : l.findIdx? p = none) :
    EvX Tryz.prog 92 [.own 1000 5 (l.map sgD).length, .d (.fn f caps)] [(1000, .row 36 5 (l.map sgD) false)] (.own 1000 5 (l.map sgD).length) [(1000, .row 36 5 (l.map sgD) false)] := by
  have hlen : (l.map sgD).length = l.length := List.length_map _
  have h := xv_IndexS l f caps p hn hf
  rw [h0] at h
  refine evx_of_awp tysOk mixed (fn := Tryz.f92) Tryz.func92 rfl rfl rfl ?_
  conv => whnf
  repeat' (first
    | ((with_reducible refine Split.of_true ?_); conv => whnf)
    | ((with_reducible refine Split.of_false ?_); conv => whnf)
    | ((with_reducible refine Split.neg ?_))
    | ((with_reducible refine Split.is_true ?_ ?_); decide; conv => whnf)
    | ((with_reducible refine Split.is_false ?_ ?_); decide; conv => whnf)
    | ((with_reducible refine Split.nez (fun _ => ?_) (fun _ => ?_)) <;> conv => whnf)
    | ((with_reducible refine Split.eqz (fun _ => ?_) (fun _ => ?_)) <;> conv => whnf)
    | ((with_reducible refine Split.and ?_))
    | ((with_reducible refine Split.or ?_))
    | ((with_reducible refine Split.streq (fun _ => ?_) (fun _ => ?_)) <;> conv => whnf)
    | ((with_reducible refine Split.dec (fun _ => ?_) (fun _ => ?_)) <;> conv => whnf)
    | ((with_reducible refine Split.mk (fun _ => ?_) (fun _ => ?_)) <;> conv => whnf)
    | ((with_reducible refine NilK.mk (fun _ => ?_) ?_) <;> conv => whnf)
    | ((with_reducible refine AltK.l ?_); (conv => whnf); (with_reducible refine Need.mk ?_ ?_); (first | omega | (refine ⟨?_, ?_⟩ <;> simp <;> omega) | (simp; omega)); conv => whnf)
    | ((with_reducible refine Need.mk ?_ ?_); (first | omega | rfl | decide | (refine ⟨?_, ?_⟩ <;> simp <;> omega) | (simp; omega)); conv => whnf)
    | ((with_reducible refine Wr.quo ?_ ?_ ?_ ?_); omega; omega; omega; conv => whnf)
    | ((with_reducible refine Wr.inr ?_ ?_); (first | omega | (simp; omega)); conv => whnf)
    | ((with_reducible refine Wr.inu ?_ ?_); omega; conv => whnf)
    | ((with_reducible refine AltK.r ?_); (conv => whnf); (first | (refine CallX.mk _ _ (h) rfl ?_)); conv => whnf)
    | (exfalso; first | omega | contradiction))
  exact ⟨⟨[], (by refine ⟨?_, ?_, rfl⟩ <;> (repeat' (first | exact True.intro | exact rfl | refine ⟨?_, ?_⟩ | (intro h; cases h; done) | (intro h; exact h) | exact map_snoc | (refine own_congr ?_; simp; done) | (refine int_congr ?_; (first | omega | (simp; omega))) | (simp; done))))⟩, rfl⟩
/-- What stays of the first elements. -/
def kpL {α : Type} (p : α → Bool) (l : List α) (j : Nat) : List α := (l.take j).filter fun x => !p x
theorem kp_le {α : Type} (p : α → Bool) (l : List α) (j : Nat) : (kpL p l j).length ≤ j := by
  have := List.length_filter_le (fun x => !p x) (l.take j)
  rw [List.length_take] at this
  unfold kpL
  omega
theorem kp_snoc {α : Type} {p : α → Bool} {l : List α} {j : Nat} {x : α} (h : l[j]? = some x) : kpL p l (j + 1) = if p x = true then kpL p l j else kpL p l j ++ [x] := by
  rw [kpL, take_snoc h, List.filter_append]
  by_cases hp : p x = true <;> simp [hp, kpL]
theorem kp_first {α : Type} {p : α → Bool} {l : List α} {i : Nat} (h : l.findIdx? p = some i) : kpL p l (i + 1) = l.take i ∧ i < l.length := by
  obtain ⟨h1, h2, h3⟩ := List.findIdx?_eq_some_iff_getElem.1 h
  refine ⟨?_, h1⟩
  rw [kp_snoc (List.getElem?_eq_getElem h1), if_pos h2, kpL, List.filter_eq_self]
  intro x hx
  obtain ⟨j, hj, rfl⟩ := List.mem_take_iff_getElem.1 hx
  have := h3 j (by omega)
  simpa using this
theorem take_set_snoc {α : Type} {m : List α} {i : Nat} {x : α} (h : i < m.length) : m.take i ++ [x] = (m.set i x).take (i + 1) := by
  rw [take_snoc (show (m.set i x)[i]? = some x by simp [h])]
  congr 1
  rw [List.take_set_of_le (Nat.le_refl _)]
theorem xv_delS (l : List Sg) (f : Nat) (caps : List D) (p : Sg → Bool) (hn : l.length ≤ 1000000) (hf : ∀ g ∈ l, Ev Tryz.prog f ([sgD g] ++ caps) (.bool (p g))) {i0 : Nat} (h0 : l.findIdx? p = some i0) :
    EvX Tryz.prog 92 [.own 1000 5 (l.map sgD).length, .d (.fn f caps)] [(1000, .row 36 5 (l.map sgD) false)] (.own 9 5 ((l.filter fun x => !p x).map sgD).length) [(1000, .gone), (9, .row 36 5 ((l.filter fun x => !p x).map sgD) false)] := by
  have hlen : (l.map sgD).length = l.length := List.length_map _
  have h := xv_IndexS l f caps p hn hf
  obtain ⟨k0, hi0⟩ := kp_first h0
  rw [h0] at h
  simp only at h
  have hk0 : (kpL p l (i0 + 1)).length = i0 := by rw [k0, List.length_take]; omega
  refine evx_of_awp tysOk mixed (fn := Tryz.f92) Tryz.func92 rfl rfl rfl ?_
  conv => whnf
  repeat' (first
    | ((with_reducible refine Split.of_true ?_); conv => whnf)
    | ((with_reducible refine Split.of_false ?_); conv => whnf)
    | ((with_reducible refine Split.neg ?_))
    | ((with_reducible refine Split.is_true ?_ ?_); decide; conv => whnf)
    | ((with_reducible refine Split.is_false ?_ ?_); decide; conv => whnf)
    | ((with_reducible refine Split.nez (fun _ => ?_) (fun _ => ?_)) <;> conv => whnf)
    | ((with_reducible refine Split.eqz (fun _ => ?_) (fun _ => ?_)) <;> conv => whnf)
    | ((with_reducible refine Split.and ?_))
    | ((with_reducible refine Split.or ?_))
    | ((with_reducible refine Split.streq (fun _ => ?_) (fun _ => ?_)) <;> conv => whnf)
    | ((with_reducible refine Split.dec (fun _ => ?_) (fun _ => ?_)) <;> conv => whnf)
    | ((with_reducible refine Split.mk (fun _ => ?_) (fun _ => ?_)) <;> conv => whnf)
    | ((with_reducible refine NilK.mk (fun _ => ?_) ?_) <;> conv => whnf)
    | ((with_reducible refine AltK.l ?_); (conv => whnf); (with_reducible refine Need.mk ?_ ?_); (first | omega | (refine ⟨?_, ?_⟩ <;> simp <;> omega) | (simp; omega)); conv => whnf)
    | ((with_reducible refine Need.mk ?_ ?_); (first | omega | rfl | decide | (refine ⟨?_, ?_⟩ <;> simp <;> omega) | (simp; omega)); conv => whnf)
    | ((with_reducible refine Wr.quo ?_ ?_ ?_ ?_); omega; omega; omega; conv => whnf)
    | ((with_reducible refine Wr.inr ?_ ?_); (first | omega | (simp; omega)); conv => whnf)
    | ((with_reducible refine Wr.inu ?_ ?_); omega; conv => whnf)
    | ((with_reducible refine AltK.r ?_); (conv => whnf); (first | (refine CallX.mk _ _ (h) rfl ?_)); conv => whnf)
    | (exfalso; first | omega | contradiction))
  refine LoopK.o2 (fun x : Nat × List Sg => i0 + 1 ≤ x.1 ∧ x.1 ≤ l.length ∧ x.2.length = l.length ∧ (∀ k, x.1 ≤ k → x.2[k]? = l[k]?) ∧ x.2.take (kpL p l x.1).length = kpL p l x.1 ∧ (kpL p l x.1).length < x.1)
    (fun x => [(5, .d (.int .i64 (kpL p l x.1).length)), (6, .d (.int .i64 x.1))]) (fun x => [(1000, .row 36 5 (x.2.map sgD) false)]) (fun x => l.length - x.1) (i0 + 1, l) ⟨by omega, by omega, rfl, fun _ _ => rfl, by rw [hk0, k0], by rw [hk0]; exact Nat.lt_succ_self _⟩ (by refine ⟨?_, ?_, rfl⟩ <;> (repeat' (first | exact True.intro | exact rfl | refine ⟨?_, ?_⟩ | (intro h; cases h; done) | (intro h; exact h) | exact map_snoc | (refine own_congr ?_; simp; done) | (refine int_congr ?_; (first | omega | (simp; omega))) | (simp; done) | ((first | refine own_congr ?_ | refine int_congr ?_ | skip); simp [hk0]; done) | ((first | refine own_congr ?_ | refine int_congr ?_); simp [hk0]; omega) | (show @Eq (List Go.Vm.D) _ []; simp [hk0]; done) | (simp [D.cells, hk0]; done)))) ?_
  rintro ⟨j, m⟩ ⟨h1, h2, h3, h4, h5, h6⟩
  dsimp only at h1 h2 h3 h4 h5 h6 ⊢
  have em : (m.map sgD).length = m.length := List.length_map _
  have hnx : (j : Int) < l.length → ∃ x, l[j]? = some x := fun h => some_of_lt (by omega)
  have e6 := kp_le p l j
  conv => whnf
  repeat' (first
    | ((with_reducible refine Split.of_true ?_); conv => whnf)
    | ((with_reducible refine Split.of_false ?_); conv => whnf)
    | ((with_reducible refine Split.neg ?_))
    | ((with_reducible refine Split.is_true ?_ ?_); decide; conv => whnf)
    | ((with_reducible refine Split.is_false ?_ ?_); decide; conv => whnf)
    | ((with_reducible refine Split.nez (fun _ => ?_) (fun _ => ?_)) <;> conv => whnf)
    | ((with_reducible refine Split.eqz (fun _ => ?_) (fun _ => ?_)) <;> conv => whnf)
    | ((with_reducible refine Split.and ?_))
    | ((with_reducible refine Split.or ?_))
    | ((with_reducible refine Split.streq (fun _ => ?_) (fun _ => ?_)) <;> conv => whnf)
    | ((with_reducible refine Split.dec (fun _ => ?_) (fun _ => ?_)) <;> conv => whnf)
    | ((with_reducible refine Split.mk (fun _ => ?_) (fun _ => ?_)) <;> conv => whnf)
    | ((with_reducible refine NilK.mk (fun _ => ?_) ?_) <;> conv => whnf)
    | ((with_reducible refine Need.mk ?_ ?_); (first | omega | rfl | decide | (refine ⟨?_, ?_⟩ <;> simp <;> omega) | (simp; omega)); conv => whnf)
    | ((with_reducible refine Wr.quo ?_ ?_ ?_ ?_); omega; omega; omega; conv => whnf)
    | ((with_reducible refine Wr.inr ?_ ?_); (first | omega | (simp; omega)); conv => whnf)
    | ((with_reducible refine Wr.inu ?_ ?_); omega; conv => whnf)
    | (exfalso; first | omega | contradiction))
  · obtain ⟨x, hx⟩ := hnx (by omega)
    have hxm : m[j]? = some x := (h4 j (Nat.le_refl _)).trans hx
    have hp := hf x (List.mem_of_getElem? hx)
    have hs := kp_snoc (p := p) hx
    cases hpx : p x with
    | true =>
      rw [if_pos hpx] at hs
      rw [hpx] at hp
      conv => whnf
      repeat' (first
        | ((refine PickE.map j hxm (by omega) ?_); conv => whnf)
        | ((with_reducible refine Split.of_true ?_); conv => whnf)
        | ((with_reducible refine Split.of_false ?_); conv => whnf)
        | ((with_reducible refine Split.neg ?_))
        | ((with_reducible refine Split.is_true ?_ ?_); decide; conv => whnf)
        | ((with_reducible refine Split.is_false ?_ ?_); decide; conv => whnf)
        | ((with_reducible refine Split.nez (fun _ => ?_) (fun _ => ?_)) <;> conv => whnf)
        | ((with_reducible refine Split.eqz (fun _ => ?_) (fun _ => ?_)) <;> conv => whnf)
        | ((with_reducible refine Split.and ?_))
        | ((with_reducible refine Split.or ?_))
        | ((with_reducible refine Split.streq (fun _ => ?_) (fun _ => ?_)) <;> conv => whnf)
        | ((with_reducible refine Split.dec (fun _ => ?_) (fun _ => ?_)) <;> conv => whnf)
        | ((with_reducible refine Split.mk (fun _ => ?_) (fun _ => ?_)) <;> conv => whnf)
        | ((with_reducible refine NilK.mk (fun _ => ?_) ?_) <;> conv => whnf)
        | ((with_reducible refine AltK.l ?_); (conv => whnf); (with_reducible refine Need.mk ?_ ?_); (first | omega | (refine ⟨?_, ?_⟩ <;> simp <;> omega) | (simp; omega)); conv => whnf)
        | ((with_reducible refine Need.mk ?_ ?_); (first | omega | rfl | decide | (refine ⟨?_, ?_⟩ <;> simp <;> omega) | (simp; omega)); conv => whnf)
        | ((with_reducible refine Wr.quo ?_ ?_ ?_ ?_); omega; omega; omega; conv => whnf)
        | ((with_reducible refine Wr.inr ?_ ?_); (first | omega | (simp; omega)); conv => whnf)
        | ((with_reducible refine Wr.inu ?_ ?_); omega; conv => whnf)
        | ((with_reducible refine AltK.l ?_); (conv => whnf); (first | (refine CallK.mk _ (hp) ?_)); conv => whnf)
        | (exfalso; first | omega | contradiction))
      refine Again.au (j + 1, m) ⟨by omega, by omega, h3, fun k hk => h4 k (by omega), by rw [hs]; exact h5, by rw [hs]; omega⟩ (by dsimp only; omega) (by refine ⟨?_, ?_, rfl⟩ <;> (repeat' (first | exact True.intro | exact rfl | refine ⟨?_, ?_⟩ | (intro h; cases h; done) | (intro h; exact h) | exact map_snoc | (refine own_congr ?_; simp; done) | (refine int_congr ?_; (first | omega | (simp; omega))) | (simp; done) | ((first | refine own_congr ?_ | refine int_congr ?_ | skip); simp [hs]; done) | ((first | refine own_congr ?_ | refine int_congr ?_); simp [hs]; omega) | (show @Eq (List Go.Vm.D) _ []; simp [hs]; done) | (simp [D.cells, hs]; done))))
    | false =>
      rw [hpx, if_neg (by decide)] at hs
      rw [hpx] at hp
      obtain ⟨y, hy⟩ := some_of_lt (l := m) (i := (kpL p l j).length) (by omega)
      conv => whnf
      repeat' (first
        | ((refine PickE.map (kpL p l j).length hy (by omega) ?_); conv => whnf)
        | ((refine PickE.map j hxm (by omega) ?_); conv => whnf)
        | ((with_reducible refine Split.of_true ?_); conv => whnf)
        | ((with_reducible refine Split.of_false ?_); conv => whnf)
        | ((with_reducible refine Split.neg ?_))
        | ((with_reducible refine Split.is_true ?_ ?_); decide; conv => whnf)
        | ((with_reducible refine Split.is_false ?_ ?_); decide; conv => whnf)
        | ((with_reducible refine Split.nez (fun _ => ?_) (fun _ => ?_)) <;> conv => whnf)
        | ((with_reducible refine Split.eqz (fun _ => ?_) (fun _ => ?_)) <;> conv => whnf)
        | ((with_reducible refine Split.and ?_))
        | ((with_reducible refine Split.or ?_))
        | ((with_reducible refine Split.streq (fun _ => ?_) (fun _ => ?_)) <;> conv => whnf)
        | ((with_reducible refine Split.dec (fun _ => ?_) (fun _ => ?_)) <;> conv => whnf)
        | ((with_reducible refine Split.mk (fun _ => ?_) (fun _ => ?_)) <;> conv => whnf)
        | ((with_reducible refine NilK.mk (fun _ => ?_) ?_) <;> conv => whnf)
        | ((with_reducible refine AltK.l ?_); (conv => whnf); (with_reducible refine Need.mk ?_ ?_); (first | omega | (refine ⟨?_, ?_⟩ <;> simp <;> omega) | (simp; omega)); conv => whnf)
        | ((with_reducible refine Need.mk ?_ ?_); (first | omega | rfl | decide | (refine ⟨?_, ?_⟩ <;> simp <;> omega) | (simp; omega)); conv => whnf)
        | ((with_reducible refine Wr.quo ?_ ?_ ?_ ?_); omega; omega; omega; conv => whnf)
        | ((with_reducible refine Wr.inr ?_ ?_); (first | omega | (simp; omega)); conv => whnf)
        | ((with_reducible refine Wr.inu ?_ ?_); omega; conv => whnf)
        | ((with_reducible refine AltK.l ?_); (conv => whnf); (first | (refine CallK.mk _ (hp) ?_)); conv => whnf)
        | (exfalso; first | omega | contradiction))
      refine Again.au (j + 1, m.set (kpL p l j).length x) ⟨by omega, by omega, by rw [List.length_set]; exact h3, fun k hk => by rw [List.getElem?_set_ne (by omega)]; exact h4 k (by omega), ?_, by rw [hs, List.length_append, List.length_singleton]; omega⟩ (by dsimp only; omega) (by refine ⟨?_, ?_, rfl⟩ <;> (repeat' (first | exact True.intro | exact rfl | refine ⟨?_, ?_⟩ | (intro h; cases h; done) | (intro h; exact h) | exact map_snoc | (refine own_congr ?_; simp; done) | (refine int_congr ?_; (first | omega | (simp; omega))) | (simp; done) | ((first | refine own_congr ?_ | refine int_congr ?_ | skip); simp [hs,sgD,List.map_set]; done) | ((first | refine own_congr ?_ | refine int_congr ?_); simp [hs,sgD,List.map_set]; omega) | (show @Eq (List Go.Vm.D) _ []; simp [hs,sgD,List.map_set]; done) | (simp [D.cells, hs,sgD,List.map_set]; done))))
      rw [hs, List.length_append, List.length_singleton, ← take_set_snoc (by omega), h5]
  · have ej : j = l.length := by omega
    have ek : kpL p l j = l.filter fun x => !p x := by rw [ej, kpL, List.take_length]
    have h5' : (m.map sgD).take (kpL p l j).length = (kpL p l j).map sgD := by rw [← List.map_take, h5]
    refine AltK.r (AltK.l ?_)
    conv => whnf
    conv => whnf
    repeat' (first
      | ((with_reducible refine Split.of_true ?_); conv => whnf)
      | ((with_reducible refine Split.of_false ?_); conv => whnf)
      | ((with_reducible refine Split.neg ?_))
      | ((with_reducible refine Split.is_true ?_ ?_); decide; conv => whnf)
      | ((with_reducible refine Split.is_false ?_ ?_); decide; conv => whnf)
      | ((with_reducible refine Split.nez (fun _ => ?_) (fun _ => ?_)) <;> conv => whnf)
      | ((with_reducible refine Split.eqz (fun _ => ?_) (fun _ => ?_)) <;> conv => whnf)
      | ((with_reducible refine Split.and ?_))
      | ((with_reducible refine Split.or ?_))
      | ((with_reducible refine Split.streq (fun _ => ?_) (fun _ => ?_)) <;> conv => whnf)
      | ((with_reducible refine Split.dec (fun _ => ?_) (fun _ => ?_)) <;> conv => whnf)
      | ((with_reducible refine Split.mk (fun _ => ?_) (fun _ => ?_)) <;> conv => whnf)
      | ((with_reducible refine NilK.mk (fun _ => ?_) ?_) <;> conv => whnf)
      | ((with_reducible refine Need.mk ?_ ?_); (first | omega | rfl | decide | (refine ⟨?_, ?_⟩ <;> simp <;> omega) | (simp; omega)); conv => whnf)
      | ((with_reducible refine Wr.quo ?_ ?_ ?_ ?_); omega; omega; omega; conv => whnf)
      | ((with_reducible refine Wr.inr ?_ ?_); (first | omega | (simp; omega)); conv => whnf)
      | ((with_reducible refine Wr.inu ?_ ?_); omega; conv => whnf)
      | (exfalso; first | omega | contradiction))
    refine AltK.r (AltK.r ?_)
    conv => whnf
    conv => whnf
    repeat' (first
      | ((with_reducible refine Split.of_true ?_); conv => whnf)
      | ((with_reducible refine Split.of_false ?_); conv => whnf)
      | ((with_reducible refine Split.neg ?_))
      | ((with_reducible refine Split.is_true ?_ ?_); decide; conv => whnf)
      | ((with_reducible refine Split.is_false ?_ ?_); decide; conv => whnf)
      | ((with_reducible refine Split.nez (fun _ => ?_) (fun _ => ?_)) <;> conv => whnf)
      | ((with_reducible refine Split.eqz (fun _ => ?_) (fun _ => ?_)) <;> conv => whnf)
      | ((with_reducible refine Split.and ?_))
      | ((with_reducible refine Split.or ?_))
      | ((with_reducible refine Split.streq (fun _ => ?_) (fun _ => ?_)) <;> conv => whnf)
      | ((with_reducible refine Split.dec (fun _ => ?_) (fun _ => ?_)) <;> conv => whnf)
      | ((with_reducible refine Split.mk (fun _ => ?_) (fun _ => ?_)) <;> conv => whnf)
      | ((with_reducible refine NilK.mk (fun _ => ?_) ?_) <;> conv => whnf)
      | ((with_reducible refine Need.mk ?_ ?_); (first | omega | rfl | decide | (refine ⟨?_, ?_⟩ <;> simp <;> omega) | (simp; omega)); conv => whnf)
      | ((with_reducible refine Wr.quo ?_ ?_ ?_ ?_); omega; omega; omega; conv => whnf)
      | ((with_reducible refine Wr.inr ?_ ?_); (first | omega | (simp; omega)); conv => whnf)
      | ((with_reducible refine Wr.inu ?_ ?_); omega; conv => whnf)
      | (exfalso; first | omega | contradiction))
    rw [← ek]
    exact ⟨⟨[(9, some 41)], (by refine ⟨?_, ?_, rfl⟩ <;> (repeat' (first | exact True.intro | exact rfl | refine ⟨?_, ?_⟩ | (intro h; cases h; done) | (intro h; exact h) | exact map_snoc | (refine own_congr ?_; simp; done) | (refine int_congr ?_; (first | omega | (simp; omega))) | (simp; done) | ((first | refine own_congr ?_ | refine int_congr ?_ | skip); simp [h5']; done) | ((first | refine own_congr ?_ | refine int_congr ?_); simp [h5']; omega) | (show @Eq (List Go.Vm.D) _ []; simp [h5']; done) | (simp [D.cells, h5']; done))))⟩, rfl⟩
end Go.Proofs.Tryz
end

section
/- A library function of the seat, laid (written by lay.sh). -/
open Go Go.Shelf
namespace Go.Proofs
def ly_LyG_ren : Shelf.Ren := ⟨fun | 6 => 85 | 15 => 135 | 14 => 138 | 28 => 162 | 29 => 163 | 20 => 173 | 21 => 174 | 22 => 175 | 23 => 176 | 24 => 177 | 25 => 178 | 26 => 179 | 27 => 180 | 46 => 193 | 47 => 186 | 48 => 187 | 49 => 194 | 50 => 195 | 57 => 202 | n => n, fun | 22 => 56 | 24 => 127 | 25 => 145 | 3 => 3 | 39 => 184 | 0 => 0 | 53 => 204 | 55 => 206 | 4 => 4 | 46 => 198 | 45 => 197 | 50 => 173 | 5 => 5 | 9 => 9 | 66 => 222 | 70 => 226 | 76 => 238 | 77 => 239 | n => n, fun | n => n⟩
theorem ly_LyG : Go.Proofs.SlLaysF0.n6 Tryz.prog ly_LyG_ren where
  mixed := by kernel_rfl
  f6 := ⟨ "slices.SortFunc[[][2]int,[2]int]", by decide, Tryz.func85.trans (congrArg some (by kernel_rfl))⟩
  f14 := ⟨ "slices.pdqsortCmpFunc[[2]int]", by decide, Tryz.func138.trans (congrArg some (by kernel_rfl))⟩
  f15 := Tryz.func135.trans (congrArg some (by kernel_rfl))
  f20 := ⟨ "slices.insertionSortCmpFunc[[2]int]", by decide, Tryz.func173.trans (congrArg some (by kernel_rfl))⟩
  f21 := ⟨ "slices.heapSortCmpFunc[[2]int]", by decide, Tryz.func174.trans (congrArg some (by kernel_rfl))⟩
  f22 := ⟨ "slices.breakPatternsCmpFunc[[2]int]", by decide, Tryz.func175.trans (congrArg some (by kernel_rfl))⟩
  f23 := ⟨ "slices.choosePivotCmpFunc[[2]int]", by decide, Tryz.func176.trans (congrArg some (by kernel_rfl))⟩
  f24 := ⟨ "slices.reverseRangeCmpFunc[[2]int]", by decide, Tryz.func177.trans (congrArg some (by kernel_rfl))⟩
  f25 := ⟨ "slices.partialInsertionSortCmpFunc[[2]int]", by decide, Tryz.func178.trans (congrArg some (by kernel_rfl))⟩
  f26 := ⟨ "slices.partitionEqualCmpFunc[[2]int]", by decide, Tryz.func179.trans (congrArg some (by kernel_rfl))⟩
  f27 := ⟨ "slices.partitionCmpFunc[[2]int]", by decide, Tryz.func180.trans (congrArg some (by kernel_rfl))⟩
  f28 := Tryz.func162.trans (congrArg some (by kernel_rfl))
  f29 := Tryz.func163.trans (congrArg some (by kernel_rfl))
  f46 := ⟨ "slices.siftDownCmpFunc[[2]int]", by decide, Tryz.func193.trans (congrArg some (by kernel_rfl))⟩
  f47 := Tryz.func186.trans (congrArg some (by kernel_rfl))
  f48 := Tryz.func187.trans (congrArg some (by kernel_rfl))
  f49 := ⟨ "slices.medianAdjacentCmpFunc[[2]int]", by decide, Tryz.func194.trans (congrArg some (by kernel_rfl))⟩
  f50 := ⟨ "slices.medianCmpFunc[[2]int]", by decide, Tryz.func195.trans (congrArg some (by kernel_rfl))⟩
  f57 := ⟨ "slices.order2CmpFunc[[2]int]", by decide, Tryz.func202.trans (congrArg some (by kernel_rfl))⟩
  t0 := Tryz.underlying0
  a0 := Tryz.isAgg0
  z0 := Tryz.sizeOf0
  v0 := Tryz.zeroValue0
  t3 := Tryz.underlying3
  a3 := Tryz.isAgg3
  z3 := Tryz.sizeOf3
  v3 := Tryz.zeroValue3
  t4 := Tryz.underlying4
  a4 := Tryz.isAgg4
  z4 := Tryz.sizeOf4
  v4 := Tryz.zeroValue4
  t5 := Tryz.underlying5
  a5 := Tryz.isAgg5
  z5 := Tryz.sizeOf5
  v5 := Tryz.zeroValue5
  t9 := Tryz.underlying9
  a9 := Tryz.isAgg9
  z9 := Tryz.sizeOf9
  v9 := Tryz.zeroValue9
  t22 := Tryz.underlying56
  a22 := Tryz.isAgg56
  z22 := Tryz.sizeOf56
  v22 := Tryz.zeroValue56
  t25 := Tryz.underlying145
  a25 := Tryz.isAgg145
  z25 := Tryz.sizeOf145
  v25 := Tryz.zeroValue145
  t39 := Tryz.underlying184
  a39 := Tryz.isAgg184
  z39 := Tryz.sizeOf184
  v39 := Tryz.zeroValue184
  t45 := Tryz.underlying197
  a45 := Tryz.isAgg197
  z45 := Tryz.sizeOf197
  v45 := Tryz.zeroValue197
  t46 := Tryz.underlying198
  a46 := Tryz.isAgg198
  z46 := Tryz.sizeOf198
  v46 := Tryz.zeroValue198
  t50 := Tryz.underlying173
  a50 := Tryz.isAgg173
  z50 := Tryz.sizeOf173
  v50 := Tryz.zeroValue173
  t53 := Tryz.underlying204
  a53 := Tryz.isAgg204
  z53 := Tryz.sizeOf204
  v53 := Tryz.zeroValue204
  t55 := Tryz.underlying206
  a55 := Tryz.isAgg206
  z55 := Tryz.sizeOf206
  v55 := Tryz.zeroValue206
  t66 := Tryz.underlying222
  a66 := Tryz.isAgg222
  z66 := Tryz.sizeOf222
  v66 := Tryz.zeroValue222
  t70 := Tryz.underlying226
  a70 := Tryz.isAgg226
  z70 := Tryz.sizeOf226
  v70 := Tryz.zeroValue226
  t76 := Tryz.underlying238
  a76 := Tryz.isAgg238
  z76 := Tryz.sizeOf238
  v76 := Tryz.zeroValue238
  t77 := Tryz.underlying239
  a77 := Tryz.isAgg239
  z77 := Tryz.sizeOf239
  v77 := Tryz.zeroValue239
end Go.Proofs
end

section
/- A library function of the seat, laid (written by lay.sh). -/
open Go Go.Shelf
namespace Go.Proofs
def ly_LyI_ren : Shelf.Ren := ⟨fun | 189 => 84 | 125 => 135 | 257 => 137 | 128 => 162 | 129 => 163 | 294 => 164 | 295 => 165 | 296 => 166 | 297 => 167 | 298 => 168 | 299 => 169 | 216 => 170 | 300 => 171 | 301 => 172 | 328 => 190 | 329 => 186 | 330 => 187 | 331 => 191 | 332 => 192 | 215 => 136 | 343 => 201 | n => n, fun | 28 => 44 | 3 => 3 | 46 => 184 | 0 => 0 | 51 => 204 | 53 => 206 | 4 => 4 | 183 => 198 | 182 => 197 | 131 => 173 | 5 => 5 | 9 => 9 | 218 => 222 | 222 => 226 | 228 => 238 | 229 => 239 | n => n, fun | n => n⟩
theorem ly_LyI : Go.Proofs.Lays.n189 Tryz.prog ly_LyI_ren where
  mixed := by kernel_rfl
  f125 := Tryz.func135.trans (congrArg some (by kernel_rfl))
  f128 := Tryz.func162.trans (congrArg some (by kernel_rfl))
  f129 := Tryz.func163.trans (congrArg some (by kernel_rfl))
  f189 := Tryz.func84.trans (congrArg some (by kernel_rfl))
  f215 := Tryz.func136.trans (congrArg some (by kernel_rfl))
  f216 := Tryz.func170.trans (congrArg some (by kernel_rfl))
  f257 := Tryz.func137.trans (congrArg some (by kernel_rfl))
  f294 := Tryz.func164.trans (congrArg some (by kernel_rfl))
  f295 := Tryz.func165.trans (congrArg some (by kernel_rfl))
  f296 := Tryz.func166.trans (congrArg some (by kernel_rfl))
  f297 := Tryz.func167.trans (congrArg some (by kernel_rfl))
  f298 := Tryz.func168.trans (congrArg some (by kernel_rfl))
  f299 := Tryz.func169.trans (congrArg some (by kernel_rfl))
  f300 := Tryz.func171.trans (congrArg some (by kernel_rfl))
  f301 := Tryz.func172.trans (congrArg some (by kernel_rfl))
  f328 := Tryz.func190.trans (congrArg some (by kernel_rfl))
  f329 := Tryz.func186.trans (congrArg some (by kernel_rfl))
  f330 := Tryz.func187.trans (congrArg some (by kernel_rfl))
  f331 := Tryz.func191.trans (congrArg some (by kernel_rfl))
  f332 := Tryz.func192.trans (congrArg some (by kernel_rfl))
  f343 := Tryz.func201.trans (congrArg some (by kernel_rfl))
  t0 := Tryz.underlying0
  a0 := Tryz.isAgg0
  z0 := Tryz.sizeOf0
  v0 := Tryz.zeroValue0
  t3 := Tryz.underlying3
  a3 := Tryz.isAgg3
  z3 := Tryz.sizeOf3
  v3 := Tryz.zeroValue3
  t4 := Tryz.underlying4
  a4 := Tryz.isAgg4
  z4 := Tryz.sizeOf4
  v4 := Tryz.zeroValue4
  t5 := Tryz.underlying5
  a5 := Tryz.isAgg5
  z5 := Tryz.sizeOf5
  v5 := Tryz.zeroValue5
  t9 := Tryz.underlying9
  a9 := Tryz.isAgg9
  z9 := Tryz.sizeOf9
  v9 := Tryz.zeroValue9
  t28 := Tryz.underlying44
  a28 := Tryz.isAgg44
  z28 := Tryz.sizeOf44
  v28 := Tryz.zeroValue44
  t46 := Tryz.underlying184
  a46 := Tryz.isAgg184
  z46 := Tryz.sizeOf184
  v46 := Tryz.zeroValue184
  t51 := Tryz.underlying204
  a51 := Tryz.isAgg204
  z51 := Tryz.sizeOf204
  v51 := Tryz.zeroValue204
  t53 := Tryz.underlying206
  a53 := Tryz.isAgg206
  z53 := Tryz.sizeOf206
  v53 := Tryz.zeroValue206
  t131 := Tryz.underlying173
  a131 := Tryz.isAgg173
  z131 := Tryz.sizeOf173
  v131 := Tryz.zeroValue173
  t182 := Tryz.underlying197
  a182 := Tryz.isAgg197
  z182 := Tryz.sizeOf197
  v182 := Tryz.zeroValue197
  t183 := Tryz.underlying198
  a183 := Tryz.isAgg198
  z183 := Tryz.sizeOf198
  v183 := Tryz.zeroValue198
  t218 := Tryz.underlying222
  a218 := Tryz.isAgg222
  z218 := Tryz.sizeOf222
  v218 := Tryz.zeroValue222
  t222 := Tryz.underlying226
  a222 := Tryz.isAgg226
  z222 := Tryz.sizeOf226
  v222 := Tryz.zeroValue226
  t228 := Tryz.underlying238
  a228 := Tryz.isAgg238
  z228 := Tryz.sizeOf238
  v228 := Tryz.zeroValue238
  t229 := Tryz.underlying239
  a229 := Tryz.isAgg239
  z229 := Tryz.sizeOf239
  v229 := Tryz.zeroValue239
end Go.Proofs
end

section
namespace Go.Proofs.Tryz
open Go Go.Vm Go.Sort
set_option maxRecDepth 20000
set_option maxHeartbeats 2000000
theorem orI4 (a b c d : Int) : orI [a, b, c, d] < 0 ↔ a < 0 ∨ a = 0 ∧ (b < 0 ∨ b = 0 ∧ (c < 0 ∨ c = 0 ∧ d < 0)) := by
  simp only [orI]
  repeat' split
  all_goals omega
theorem cmpI_neg (x y : Int) : cmpI x y < 0 ↔ x < y := by
  unfold cmpI
  repeat' split
  all_goals omega
theorem cmpI_zero (x y : Int) : cmpI x y = 0 ↔ x = y := by
  unfold cmpI
  repeat' split
  all_goals omega
theorem cfThin_lt (a b : Sg) : cfThin a b < 0 ↔ b.hi < a.hi ∨ b.hi = a.hi ∧ (a.x < b.x ∨ a.x = b.x ∧ (a.y < b.y ∨ a.y = b.y ∧ a.n < b.n)) := by
  unfold cfThin
  rw [orI4]
  simp only [cmpI_neg, cmpI_zero]
theorem swoThin : SWO fun x y => decide (cfThin x y < 0) where
  irrefl x := by simp only [cfThin_lt, decide_eq_false_iff_not]; omega
  trans x y z := by simp only [cfThin_lt, decide_eq_true_eq]; omega
  ntrans x y z := by simp only [cfThin_lt, decide_eq_false_iff_not]; omega
def NoTwo (l : List Sg) : Prop := l.Pairwise fun a b => a.n ≠ b.n
theorem noTwo_eq {l : List Sg} (h : NoTwo l) : ∀ x ∈ l, ∀ y ∈ l, x.n = y.n → x = y := by
  intro x hx y hy e
  obtain ⟨i, hi, rfl⟩ := List.getElem_of_mem hx
  obtain ⟨j, hj, rfl⟩ := List.getElem_of_mem hy
  rcases Nat.lt_trichotomy i j with h1 | h1 | h1
  · exact absurd e (List.pairwise_iff_getElem.1 h i j hi hj h1)
  · subst h1; rfl
  · exact absurd e.symm (List.pairwise_iff_getElem.1 h j i hj hi h1)
theorem xv_SortThin (l : List Sg) (hu : NoTwo l) (hl : l.length ≤ 500) : EvX Tryz.prog 77 [.own 1000 5 (l.map sgD).length, .d (.fn 78 [])] [(1000, .row 36 5 (l.map sgD) false)] (.tup []) [(1000, .row 36 5 ((sortL cfThin l).map sgD) false)] := by
  have h := EvX.sortFunc ly_LyS sgD 5 (fun w => isAgg36 w) (fun w => sizeOf36 w) (fun _ => rfl) (fun x c hc => by
    simp only [sgD, D.cells, List.mem_cons, List.mem_nil_iff, or_false] at hc
    rcases hc with rfl | rfl | rfl | rfl | rfl <;> rfl) (fun x => ⟨_, rfl⟩) cfThin swoThin 78 [] l (fun x hx y hy h1 h2 => noTwo_eq hu x hx y hy (by
    rw [cfThin_lt] at h1 h2; omega)) (fun x _ y _ => ev_Thin1 x y) (by omega) 1000
  rw [List.length_map]
  exact h
theorem ev_Thin2 (k s : Sg) (r : Int) (hk : -1000000 ≤ k.x ∧ k.x ≤ 1000000 ∧ -1000000 ≤ k.y ∧ k.y ≤ 1000000) (hs : -1000000 ≤ s.x ∧ s.x ≤ 1000000 ∧ -1000000 ≤ s.y ∧ s.y ≤ 1000000) (hr : 0 ≤ r ∧ r ≤ 2000000) :
    Ev Tryz.prog 82 [sgD k, .ref [iD s.n, iD s.x, iD s.y, iD s.lo, iD s.hi] 0, .ref [iD r] 0] (.bool (decide (sqS k s.x s.y ≤ r * r))) := by
  have h := ev_square k s.x s.y hk hs
  have m := mul_bd (x := r) (y := r) (X := 2000000) (Y := 2000000) (by omega) (by omega)
  refine ev_of_awp tysOk mixed (fn := Tryz.f82) Tryz.func82 rfl rfl rfl ?_
  conv => whnf
  repeat' (first
    | ((with_reducible refine Split.of_true ?_); conv => whnf)
    | ((with_reducible refine Split.of_false ?_); conv => whnf)
    | ((with_reducible refine Split.neg ?_))
    | ((with_reducible refine Split.is_true ?_ ?_); decide; conv => whnf)
    | ((with_reducible refine Split.is_false ?_ ?_); decide; conv => whnf)
    | ((with_reducible refine Split.nez (fun _ => ?_) (fun _ => ?_)) <;> conv => whnf)
    | ((with_reducible refine Split.eqz (fun _ => ?_) (fun _ => ?_)) <;> conv => whnf)
    | ((with_reducible refine Split.and ?_))
    | ((with_reducible refine Split.or ?_))
    | ((with_reducible refine Split.streq (fun _ => ?_) (fun _ => ?_)) <;> conv => whnf)
    | ((with_reducible refine Split.dec (fun _ => ?_) (fun _ => ?_)) <;> conv => whnf)
    | ((with_reducible refine Split.mk (fun _ => ?_) (fun _ => ?_)) <;> conv => whnf)
    | ((with_reducible refine NilK.mk (fun _ => ?_) ?_) <;> conv => whnf)
    | ((with_reducible refine AltK.l ?_); (conv => whnf); (with_reducible refine Need.mk ?_ ?_); (first | omega | (refine ⟨?_, ?_⟩ <;> simp <;> omega) | (simp; omega)); conv => whnf)
    | ((with_reducible refine Need.mk ?_ ?_); (first | omega | rfl | decide | (refine ⟨?_, ?_⟩ <;> simp <;> omega) | (simp; omega)); conv => whnf)
    | ((with_reducible refine Wr.quo ?_ ?_ ?_ ?_); omega; omega; omega; conv => whnf)
    | ((with_reducible refine Wr.inr ?_ ?_); (first | omega | (simp; omega)); conv => whnf)
    | ((with_reducible refine Wr.inu ?_ ?_); omega; conv => whnf)
    | ((with_reducible refine AltK.l ?_); (conv => whnf); (first | (refine CallK.mk _ (h) ?_)); conv => whnf)
    | (exfalso; first | omega | contradiction))
  rfl
theorem ev_Thin3 (a b : Int × Int) : Ev Tryz.prog 86 [.agg [iD a.1, iD a.2], .agg [iD b.1, iD b.2]] (iD (cmpI a.1 b.1)) := by
  refine ev_of_awp tysOk mixed (fn := Tryz.f86) Tryz.func86 rfl rfl rfl ?_
  conv => whnf
  repeat' (first
    | ((refine PickE.mk _ rfl ?_); conv => whnf)
    | ((with_reducible refine Split.of_true ?_); conv => whnf)
    | ((with_reducible refine Split.of_false ?_); conv => whnf)
    | ((with_reducible refine Split.neg ?_))
    | ((with_reducible refine Split.is_true ?_ ?_); decide; conv => whnf)
    | ((with_reducible refine Split.is_false ?_ ?_); decide; conv => whnf)
    | ((with_reducible refine Split.nez (fun _ => ?_) (fun _ => ?_)) <;> conv => whnf)
    | ((with_reducible refine Split.eqz (fun _ => ?_) (fun _ => ?_)) <;> conv => whnf)
    | ((with_reducible refine Split.and ?_))
    | ((with_reducible refine Split.or ?_))
    | ((with_reducible refine Split.streq (fun _ => ?_) (fun _ => ?_)) <;> conv => whnf)
    | ((with_reducible refine Split.dec (fun _ => ?_) (fun _ => ?_)) <;> conv => whnf)
    | ((with_reducible refine Split.mk (fun _ => ?_) (fun _ => ?_)) <;> conv => whnf)
    | ((with_reducible refine NilK.mk (fun _ => ?_) ?_) <;> conv => whnf)
    | ((with_reducible refine AltK.l ?_); (conv => whnf); (with_reducible refine Need.mk ?_ ?_); (first | omega | (refine ⟨?_, ?_⟩ <;> simp <;> omega) | (simp; omega)); conv => whnf)
    | ((with_reducible refine Need.mk ?_ ?_); (first | omega | rfl | decide | (refine ⟨?_, ?_⟩ <;> simp <;> omega) | (simp; omega)); conv => whnf)
    | ((with_reducible refine Wr.quo ?_ ?_ ?_ ?_); omega; omega; omega; conv => whnf)
    | ((with_reducible refine Wr.inr ?_ ?_); (first | omega | (simp; omega)); conv => whnf)
    | ((with_reducible refine Wr.inu ?_ ?_); omega; conv => whnf)
    | ((with_reducible refine AltK.l ?_); (conv => whnf); (first | (refine CallK.mk _ (ev_Compare _ _) ?_)); conv => whnf)
    | (exfalso; first | omega | contradiction))
  rfl
end Go.Proofs.Tryz
end

section
namespace Go.Proofs.Tryz
open Go Go.Vm Go.Sort
set_option maxRecDepth 20000
set_option maxHeartbeats 2000000
def gdD (p : Int × Int) : D := .agg [iD p.1, iD p.2]
theorem xv_SortG (l : List (Int × Int)) (hu : l.Pairwise fun a b => a.1 ≠ b.1) (hl : l.length ≤ 500) : EvX Tryz.prog 85 [.own 1000 2 (l.map gdD).length, .d (.fn 86 [])] [(1000, .row 127 2 (l.map gdD) false)] (.tup []) [(1000, .row 127 2 ((sortL (fun a b => cmpI a.1 b.1) l).map gdD) false)] := by
  have h := EvX.sortFunc ly_LyG gdD 2 (fun w => isAgg127 w) (fun w => sizeOf127 w) (fun _ => rfl) (fun x c hc => by
    simp only [gdD, D.cells, List.mem_cons, List.mem_nil_iff, or_false] at hc
    rcases hc with rfl | rfl <;> rfl) (fun x => ⟨_, rfl⟩) (fun a b => cmpI a.1 b.1) ⟨fun x => by simp only [cmpI_neg, decide_eq_false_iff_not]; omega, fun x y z => by simp only [cmpI_neg, decide_eq_true_eq]; omega, fun x y z => by simp only [cmpI_neg, decide_eq_false_iff_not]; omega⟩
    86 [] l (fun x hx y hy h1 h2 => by
      have e : x.1 = y.1 := by rw [cmpI_neg] at h1 h2; omega
      obtain ⟨i, hi, rfl⟩ := List.getElem_of_mem hx
      obtain ⟨j, hj, rfl⟩ := List.getElem_of_mem hy
      rcases Nat.lt_trichotomy i j with h3 | h3 | h3
      · exact absurd e (List.pairwise_iff_getElem.1 hu i j hi hj h3)
      · subst h3; rfl
      · exact absurd e.symm (List.pairwise_iff_getElem.1 hu j i hj hi h3)) (fun x _ y _ => ev_Thin3 x y) (by omega) 1000
  rw [List.length_map]
  exact h
theorem xv_SortI (l : List Int) (hl : l.length ≤ 500) : EvX Tryz.prog 84 [.own 1000 1 (l.map iD).length] [(1000, .row 3 1 (l.map iD) false)] (.tup []) [(1000, .row 3 1 ((sortZ l).map iD) false)] := by
  have h := EvX.sortInts ly_LyI 3 l (by omega) 1000
  rw [List.length_map]
  exact h
theorem ev_SortThin0 : Ev Tryz.prog 77 [.sl 5 [], .fn 78 []] (.tup []) := Ev.sortNone ly_LyS 5 _ _
theorem ev_SortG0 : Ev Tryz.prog 85 [.sl 2 [], .fn 86 []] (.tup []) := Ev.sortNone ly_LyG 2 _ _
theorem ev_SortI0 : Ev Tryz.prog 84 [.sl 1 []] (.tup []) := Ev.sortIntsNone ly_LyI
/-- One sounding more of a thinning: what is kept, and the guards. -/
def thinStep (r : Int) (st : List Sg × List (Int × Int)) (s : Sg) : List Sg × List (Int × Int) := match st.1.find? fun k => decide (sqS k s.x s.y ≤ r * r) with
  | none => (st.1 ++ [s], st.2)
  | some k => (st.1, st.2 ++ [(s.n, k.n)])
def thinO (r : Int) (o : List Sg) : List Sg × List (Int × Int) := o.foldl (thinStep r) ([], [])
def thinRes (l : List Sg) (r : Int) : List Int × List (Int × Int) × Int := if chkErr sgB Sg.n l ≠ 0 then ([], [], chkErr sgB Sg.n l) else if radB r ≠ 0 then ([], [], radB r) else
  (sortZ ((thinO r (sortL cfThin l)).1.map Sg.n), sortL (fun a b => cmpI a.1 b.1) (thinO r (sortL cfThin l)).2, 0)
def thD (k : List Int) (g : List (Int × Int)) : D := .agg [.sl 1 (k.map iD), .sl 2 (g.map gdD)]
def thE (x : List Int × List (Int × Int) × Int) : D := .tup [thD x.1 x.2.1, .int .i64 x.2.2]
theorem thinO_snoc (r : Int) {o : List Sg} {i : Nat} {s : Sg} (h : o[i]? = some s) : thinO r (o.take (i + 1)) = thinStep r (thinO r (o.take i)) s := by
  rw [thinO, take_snoc h, List.foldl_append]; rfl
theorem thinO_app (r : Int) (o : List Sg) (s : Sg) : thinO r (o ++ [s]) = thinStep r (thinO r o) s := by
  rw [thinO, List.foldl_append]; rfl
theorem list_snoc {α : Type} {P : List α → Prop} (h0 : P []) (h1 : ∀ l a, P l → P (l ++ [a])) (l : List α) : P l := by
  induction hn : l.length generalizing l with
  | zero => rw [List.eq_nil_of_length_eq_zero hn]; exact h0
  | succ n ih =>
    rcases nil_or_snoc l with rfl | ⟨r, a, rfl⟩
    · exact h0
    · exact h1 r a (ih r (by simpa using hn))
theorem thinO_sub (r : Int) (o : List Sg) : ∀ k ∈ (thinO r o).1, k ∈ o := by
  refine list_snoc (P := fun o => ∀ k ∈ (thinO r o).1, k ∈ o) (fun k h => (by cases h)) (fun o s ih k hk => ?_) o
  rw [thinO_app, thinStep] at hk
  rw [List.mem_append]
  split at hk
  · rcases List.mem_append.1 hk with h | h
    · exact .inl (ih k h)
    · exact .inr h
  · exact .inl (ih k hk)
theorem thinO_len (r : Int) (o : List Sg) : (thinO r o).1.length + (thinO r o).2.length = o.length := by
  refine list_snoc (P := fun o => (thinO r o).1.length + (thinO r o).2.length = o.length) rfl (fun o s ih => ?_) o
  rw [thinO_app, thinStep]
  split <;> simp <;> omega
theorem rad_bd {r : Int} (h : radB r = 0) : 0 ≤ r ∧ r ≤ 2000000 := by
  unfold radB outsideB at h
  split at h
  · cases h
  · rename_i h1; simp at h1; omega
theorem sg_place {s : Sg} (h : sgB s = true) : -1000000 ≤ s.x ∧ s.x ≤ 1000000 ∧ -1000000 ≤ s.y ∧ s.y ≤ 1000000 := by
  simp only [sgB, outsideB, Bool.and_eq_true, Bool.not_eq_true', Bool.or_eq_false_iff, decide_eq_false_iff_not] at h
  omega
theorem thinO_fst (r : Int) (o : List Sg) : ∀ p ∈ (thinO r o).2, ∃ s ∈ o, p.1 = s.n := by
  refine list_snoc (P := fun o => ∀ p ∈ (thinO r o).2, ∃ s ∈ o, p.1 = s.n) (fun k h => (by cases h)) (fun o s ih p hp => ?_) o
  rw [thinO_app, thinStep] at hp
  split at hp
  · obtain ⟨t, h1, h2⟩ := ih p hp; exact ⟨t, List.mem_append_left _ h1, h2⟩
  · rcases List.mem_append.1 hp with hp | hp
    · obtain ⟨t, h1, h2⟩ := ih p hp; exact ⟨t, List.mem_append_left _ h1, h2⟩
    · rw [List.mem_singleton.1 hp]; exact ⟨s, by simp, rfl⟩
theorem thinO_pairs (r : Int) (o : List Sg) : NoTwo o → (thinO r o).2.Pairwise fun a b => a.1 ≠ b.1 := by
  refine list_snoc (P := fun o => NoTwo o → (thinO r o).2.Pairwise fun a b => a.1 ≠ b.1) (fun _ => .nil) (fun o s ih hu => ?_) o
  obtain ⟨h1, _, h2⟩ := List.pairwise_append.1 hu
  rw [thinO_app, thinStep]
  split
  · exact ih h1
  · refine List.pairwise_append.2 ⟨ih h1, by simp, fun p hp q hq => ?_⟩
    rw [List.mem_singleton.1 hq]
    obtain ⟨t, h3, h4⟩ := thinO_fst r o p hp
    rw [h4]; exact h2 t h3 s (by simp)
theorem thin_pairs (r : Int) {l : List Sg} (hu : NoTwo l) : (thinO r (sortL cfThin l)).2.Pairwise fun a b => a.1 ≠ b.1 :=
  thinO_pairs r _ ((sortL_perm cfThin l).symm.pairwise hu fun h e => h e.symm)
theorem thinStep_none {r : Int} {kp : List Sg} {gs : List (Int × Int)} {s : Sg} (h : kp.findIdx? (fun k => decide (sqS k s.x s.y ≤ r * r)) = none) : thinStep r (kp, gs) s = (kp ++ [s], gs) := by
  have : kp.find? (fun k => decide (sqS k s.x s.y ≤ r * r)) = none := by
    rw [List.find?_eq_none]
    intro x hx
    rw [List.findIdx?_eq_none_iff.1 h x hx]; decide
  rw [thinStep]; simp only [this]
theorem thinStep_some {r : Int} {kp : List Sg} {gs : List (Int × Int)} {s : Sg} {j : Nat} (h : kp.findIdx? (fun k => decide (sqS k s.x s.y ≤ r * r)) = some j) : ∃ k, kp[j]? = some k ∧ thinStep r (kp, gs) s = (kp, gs ++ [(s.n, k.n)]) := by
  obtain ⟨h1, h2, h3⟩ := List.findIdx?_eq_some_iff_getElem.1 h
  refine ⟨kp[j], List.getElem?_eq_getElem h1, ?_⟩
  have : kp.find? (fun k => decide (sqS k s.x s.y ≤ r * r)) = some kp[j] := by
    rw [List.find?_eq_some_iff_getElem]
    exact ⟨h2, j, h1, rfl, fun i hi => by simpa using h3 i hi⟩
  rw [thinStep]; simp only [this]
theorem ev_Thin (l : List Sg) (r : Int) : Ev Tryz.prog 30 [.sl 5 (l.map sgD), iD r] (thE (thinRes l r)) := by
  have hlen : (l.map sgD).length = l.length := List.length_map _
  have h1 := ev_CheckS l
  have h2 := ev_checkRadius r
  by_cases c0 : chkErr sgB Sg.n l = 0
  · rw [thinRes, if_neg (by simpa using c0)]
    rw [c0] at h1
    by_cases r0 : radB r = 0
    · rw [if_neg (by simpa using r0)]
      rw [r0] at h2
      obtain ⟨hl5, hall, hu⟩ := chk_zero c0
      by_cases hn : l = []
      · subst hn
        refine ev_of_awp tysOk mixed (fn := Tryz.f30) Tryz.func30 rfl rfl rfl ?_
        conv => whnf
        repeat' (first
          | ((refine LoopK.unr 1 ?_); conv => whnf)
          | ((with_reducible refine Split.of_true ?_); conv => whnf)
          | ((with_reducible refine Split.of_false ?_); conv => whnf)
          | ((with_reducible refine Split.neg ?_))
          | ((with_reducible refine Split.is_true ?_ ?_); decide; conv => whnf)
          | ((with_reducible refine Split.is_false ?_ ?_); decide; conv => whnf)
          | ((with_reducible refine Split.nez (fun _ => ?_) (fun _ => ?_)) <;> conv => whnf)
          | ((with_reducible refine Split.eqz (fun _ => ?_) (fun _ => ?_)) <;> conv => whnf)
          | ((with_reducible refine Split.and ?_))
          | ((with_reducible refine Split.or ?_))
          | ((with_reducible refine Split.streq (fun _ => ?_) (fun _ => ?_)) <;> conv => whnf)
          | ((with_reducible refine Split.dec (fun _ => ?_) (fun _ => ?_)) <;> conv => whnf)
          | ((with_reducible refine Split.mk (fun _ => ?_) (fun _ => ?_)) <;> conv => whnf)
          | ((with_reducible refine NilK.mk (fun _ => ?_) ?_) <;> conv => whnf)
          | ((with_reducible refine AltK.l ?_); (conv => whnf); (with_reducible refine Need.mk ?_ ?_); (first | omega | (refine ⟨?_, ?_⟩ <;> simp <;> omega) | (simp; omega)); conv => whnf)
          | ((with_reducible refine Need.mk ?_ ?_); (first | omega | rfl | decide | (refine ⟨?_, ?_⟩ <;> simp <;> omega) | (simp; omega)); conv => whnf)
          | ((with_reducible refine Wr.quo ?_ ?_ ?_ ?_); omega; omega; omega; conv => whnf)
          | ((with_reducible refine Wr.inr ?_ ?_); (first | omega | (simp; omega)); conv => whnf)
          | ((with_reducible refine Wr.inu ?_ ?_); omega; conv => whnf)
          | ((with_reducible refine AltK.l ?_); (conv => whnf); (first | (refine CallK.mk _ (h1) ?_) | (refine CallK.mk _ (h2) ?_) | (refine CallK.mk _ (ev_cloneS [] (by simp)) ?_) | (refine CallK.mk _ (ev_SortThin0) ?_) | (refine CallK.mk _ (ev_SortG0) ?_) | (refine CallK.mk _ (ev_SortI0) ?_)); conv => whnf)
          | (exfalso; first | omega | contradiction))
        rw [show sortL cfThin ([] : List Sg) = [] from List.eq_nil_of_length_eq_zero (by rw [sortL_len]; rfl)]
        show _ = thE (sortZ [], sortL (fun a b => cmpI a.1 b.1) [], 0)
        rw [show sortZ [] = [] from List.eq_nil_of_length_eq_zero (by rw [sortZ_len]; rfl), show sortL (fun a b : Int × Int => cmpI a.1 b.1) [] = [] from List.eq_nil_of_length_eq_zero (by rw [sortL_len]; rfl)]
        rfl
      · have h3 := EvX.new1 (xs := [.sl 5 (l.map sgD)]) (xv_cloneS l (by have := List.length_pos_iff.2 hn; omega)) 27
        refine ev_of_awp tysOk mixed (fn := Tryz.f30) Tryz.func30 rfl rfl rfl ?_
        have h4 := EvX.at1t (xs := [.fn 78 []]) (xv_SortThin l hu hl5) 27
        have hr := rad_bd r0
        have ho : ∀ g ∈ sortL cfThin l, -1000000 ≤ g.x ∧ g.x ≤ 1000000 ∧ -1000000 ≤ g.y ∧ g.y ≤ 1000000 := fun g hg => sg_place (hall g ((sortL_perm cfThin l).subset hg))
        have hol : (sortL cfThin l).length = l.length := sortL_len _ _
        have hnk := thin_pairs r hu
        conv => whnf
        repeat' (first
          | ((with_reducible refine Split.of_true ?_); conv => whnf)
          | ((with_reducible refine Split.of_false ?_); conv => whnf)
          | ((with_reducible refine Split.neg ?_))
          | ((with_reducible refine Split.is_true ?_ ?_); decide; conv => whnf)
          | ((with_reducible refine Split.is_false ?_ ?_); decide; conv => whnf)
          | ((with_reducible refine Split.nez (fun _ => ?_) (fun _ => ?_)) <;> conv => whnf)
          | ((with_reducible refine Split.eqz (fun _ => ?_) (fun _ => ?_)) <;> conv => whnf)
          | ((with_reducible refine Split.and ?_))
          | ((with_reducible refine Split.or ?_))
          | ((with_reducible refine Split.streq (fun _ => ?_) (fun _ => ?_)) <;> conv => whnf)
          | ((with_reducible refine Split.dec (fun _ => ?_) (fun _ => ?_)) <;> conv => whnf)
          | ((with_reducible refine Split.mk (fun _ => ?_) (fun _ => ?_)) <;> conv => whnf)
          | ((with_reducible refine NilK.mk (fun _ => ?_) ?_) <;> conv => whnf)
          | ((with_reducible refine AltK.l ?_); (conv => whnf); (with_reducible refine Need.mk ?_ ?_); (first | omega | (refine ⟨?_, ?_⟩ <;> simp <;> omega) | (simp; omega)); conv => whnf)
          | ((with_reducible refine Need.mk ?_ ?_); (first | omega | rfl | decide | (refine ⟨?_, ?_⟩ <;> simp <;> omega) | (simp; omega)); conv => whnf)
          | ((with_reducible refine Wr.quo ?_ ?_ ?_ ?_); omega; omega; omega; conv => whnf)
          | ((with_reducible refine Wr.inr ?_ ?_); (first | omega | (simp; omega)); conv => whnf)
          | ((with_reducible refine Wr.inu ?_ ?_); omega; conv => whnf)
          | ((with_reducible refine AltK.r ?_); (conv => whnf); (first | (refine CallX.mk _ _ (h3) rfl ?_) | (refine CallX.mk _ _ (h4) rfl ?_)); conv => whnf)
          | ((with_reducible refine AltK.l ?_); (conv => whnf); (first | (refine CallK.mk _ (h1) ?_) | (refine CallK.mk _ (h2) ?_)); conv => whnf)
          | (exfalso; first | omega | contradiction))
        generalize sortL cfThin l = o at *
        have eo : (o.map sgD).length = o.length := List.length_map _
        refine LoopK.o2 (fun i : Nat => i ≤ o.length) (fun i => [(9, .own 200 5 ((thinO r (o.take i)).1.map sgD).length), (32, .d (.int .i64 i))])
          (fun i => [(3, .var [.d (iD r)] true), (200, .row 36 5 ((thinO r (o.take i)).1.map sgD) true), (10, .var [.own 201 1 (((thinO r (o.take i)).1.map Sg.n).map iD).length, .own 202 2 ((thinO r (o.take i)).2.map gdD).length] false),
            (201, .row 3 1 (((thinO r (o.take i)).1.map Sg.n).map iD) false), (202, .row 127 2 ((thinO r (o.take i)).2.map gdD) false)]) (fun i => o.length - i) 0 (by simp) (by refine ⟨?_, ?_, rfl⟩ <;> (repeat' (first | exact True.intro | exact rfl | refine ⟨?_, ?_⟩ | (intro h; cases h; done) | (intro h; exact h) | exact map_snoc | (refine own_congr ?_; simp; done) | (refine int_congr ?_; (first | omega | (simp; omega))) | (simp; done) | ((first | refine own_congr ?_ | refine int_congr ?_ | skip); simp [thinO]; done) | ((first | refine own_congr ?_ | refine int_congr ?_); simp [thinO]; omega) | (show @Eq (List Go.Vm.D) _ []; simp [thinO]; done) | (simp [D.cells, thinO]; done)))) ?_
        rintro i hi
        have hnx : (i : Int) < o.length → ∃ m, o[i]? = some m := fun h => some_of_lt (by omega)
        have hki := thinO_sub r (o.take i)
        have hgl := thinO_len r (o.take i)
        rw [List.length_take] at hgl
        conv => whnf
        repeat' (first
          | ((with_reducible refine Split.of_true ?_); conv => whnf)
          | ((with_reducible refine Split.of_false ?_); conv => whnf)
          | ((with_reducible refine Split.neg ?_))
          | ((with_reducible refine Split.is_true ?_ ?_); decide; conv => whnf)
          | ((with_reducible refine Split.is_false ?_ ?_); decide; conv => whnf)
          | ((with_reducible refine Split.nez (fun _ => ?_) (fun _ => ?_)) <;> conv => whnf)
          | ((with_reducible refine Split.eqz (fun _ => ?_) (fun _ => ?_)) <;> conv => whnf)
          | ((with_reducible refine Split.and ?_))
          | ((with_reducible refine Split.or ?_))
          | ((with_reducible refine Split.streq (fun _ => ?_) (fun _ => ?_)) <;> conv => whnf)
          | ((with_reducible refine Split.dec (fun _ => ?_) (fun _ => ?_)) <;> conv => whnf)
          | ((with_reducible refine Split.mk (fun _ => ?_) (fun _ => ?_)) <;> conv => whnf)
          | ((with_reducible refine NilK.mk (fun _ => ?_) ?_) <;> conv => whnf)
          | ((with_reducible refine AltK.l ?_); (conv => whnf); (with_reducible refine Need.mk ?_ ?_); (first | omega | (refine ⟨?_, ?_⟩ <;> simp <;> omega) | (simp; omega)); conv => whnf)
          | ((with_reducible refine Need.mk ?_ ?_); (first | omega | rfl | decide | (refine ⟨?_, ?_⟩ <;> simp <;> omega) | (simp; omega)); conv => whnf)
          | ((with_reducible refine Wr.quo ?_ ?_ ?_ ?_); omega; omega; omega; conv => whnf)
          | ((with_reducible refine Wr.inr ?_ ?_); (first | omega | (simp; omega)); conv => whnf)
          | ((with_reducible refine Wr.inu ?_ ?_); omega; conv => whnf)
          | (exfalso; first | omega | contradiction))
        · obtain ⟨s, hs⟩ := hnx (by omega)
          have hst := thinO_snoc r hs
          have hsp := ho s (List.mem_of_getElem? hs)
          generalize thinO r (o.take i) = q at *
          obtain ⟨kp, gs⟩ := q
          dsimp only at hki hgl hst ⊢
          have h5 := ev_IndexS kp 82 [.ref [iD s.n, iD s.x, iD s.y, iD s.lo, iD s.hi] 0, .ref [iD r] 0] (fun k => decide (sqS k s.x s.y ≤ r * r)) (by omega) (fun k hk => ev_Thin2 k s r (ho k (List.mem_of_mem_take (hki k hk))) hsp hr)
          cases hf : kp.findIdx? fun k => decide (sqS k s.x s.y ≤ r * r) with
          | none =>
            rw [thinStep_none hf] at hst
            rw [hf] at h5
            simp only at h5
            conv => whnf
            repeat' (first
              | ((refine PickE.map i hs (by omega) ?_); conv => whnf)
              | ((with_reducible refine Split.of_true ?_); conv => whnf)
              | ((with_reducible refine Split.of_false ?_); conv => whnf)
              | ((with_reducible refine Split.neg ?_))
              | ((with_reducible refine Split.is_true ?_ ?_); decide; conv => whnf)
              | ((with_reducible refine Split.is_false ?_ ?_); decide; conv => whnf)
              | ((with_reducible refine Split.nez (fun _ => ?_) (fun _ => ?_)) <;> conv => whnf)
              | ((with_reducible refine Split.eqz (fun _ => ?_) (fun _ => ?_)) <;> conv => whnf)
              | ((with_reducible refine Split.and ?_))
              | ((with_reducible refine Split.or ?_))
              | ((with_reducible refine Split.streq (fun _ => ?_) (fun _ => ?_)) <;> conv => whnf)
              | ((with_reducible refine Split.dec (fun _ => ?_) (fun _ => ?_)) <;> conv => whnf)
              | ((with_reducible refine Split.mk (fun _ => ?_) (fun _ => ?_)) <;> conv => whnf)
              | ((with_reducible refine NilK.mk (fun _ => ?_) ?_) <;> conv => whnf)
              | ((with_reducible refine AltK.l ?_); (conv => whnf); (with_reducible refine Need.mk ?_ ?_); (first | omega | (refine ⟨?_, ?_⟩ <;> simp <;> omega) | (simp; omega)); conv => whnf)
              | ((with_reducible refine Need.mk ?_ ?_); (first | omega | rfl | decide | (refine ⟨?_, ?_⟩ <;> simp <;> omega) | (simp; omega)); conv => whnf)
              | ((with_reducible refine Wr.quo ?_ ?_ ?_ ?_); omega; omega; omega; conv => whnf)
              | ((with_reducible refine Wr.inr ?_ ?_); (first | omega | (simp; omega)); conv => whnf)
              | ((with_reducible refine Wr.inu ?_ ?_); omega; conv => whnf)
              | ((with_reducible refine AltK.l ?_); (conv => whnf); (first | (refine CallK.mk _ (h5) ?_)); conv => whnf)
              | (exfalso; first | omega | contradiction))
            refine Again.au (i + 1) (by omega) (by omega) (by refine ⟨?_, ?_, rfl⟩ <;> (repeat' (first | exact True.intro | exact rfl | refine ⟨?_, ?_⟩ | (intro h; cases h; done) | (intro h; exact h) | exact map_snoc | (refine own_congr ?_; simp; done) | (refine int_congr ?_; (first | omega | (simp; omega))) | (simp; done) | ((first | refine own_congr ?_ | refine int_congr ?_ | skip); simp [hst,sgD]; done) | ((first | refine own_congr ?_ | refine int_congr ?_); simp [hst,sgD]; omega) | (show @Eq (List Go.Vm.D) _ []; simp [hst,sgD]; done) | (simp [D.cells, hst,sgD]; done))))
          | some j =>
            obtain ⟨k, hk, hst2⟩ := thinStep_some (gs := gs) hf
            rw [hst2] at hst
            have hjl : j < kp.length := (List.getElem?_eq_some_iff.1 hk).1
            rw [hf] at h5
            simp only at h5
            conv => whnf
            repeat' (first
              | ((refine PickE.map j hk (by omega) ?_); conv => whnf)
              | ((refine PickE.map i hs (by omega) ?_); conv => whnf)
              | ((with_reducible refine Split.of_true ?_); conv => whnf)
              | ((with_reducible refine Split.of_false ?_); conv => whnf)
              | ((with_reducible refine Split.neg ?_))
              | ((with_reducible refine Split.is_true ?_ ?_); decide; conv => whnf)
              | ((with_reducible refine Split.is_false ?_ ?_); decide; conv => whnf)
              | ((with_reducible refine Split.nez (fun _ => ?_) (fun _ => ?_)) <;> conv => whnf)
              | ((with_reducible refine Split.eqz (fun _ => ?_) (fun _ => ?_)) <;> conv => whnf)
              | ((with_reducible refine Split.and ?_))
              | ((with_reducible refine Split.or ?_))
              | ((with_reducible refine Split.streq (fun _ => ?_) (fun _ => ?_)) <;> conv => whnf)
              | ((with_reducible refine Split.dec (fun _ => ?_) (fun _ => ?_)) <;> conv => whnf)
              | ((with_reducible refine Split.mk (fun _ => ?_) (fun _ => ?_)) <;> conv => whnf)
              | ((with_reducible refine NilK.mk (fun _ => ?_) ?_) <;> conv => whnf)
              | ((with_reducible refine AltK.l ?_); (conv => whnf); (with_reducible refine Need.mk ?_ ?_); (first | omega | (refine ⟨?_, ?_⟩ <;> simp <;> omega) | (simp; omega)); conv => whnf)
              | ((with_reducible refine Need.mk ?_ ?_); (first | omega | rfl | decide | (refine ⟨?_, ?_⟩ <;> simp <;> omega) | (simp; omega)); conv => whnf)
              | ((with_reducible refine Wr.quo ?_ ?_ ?_ ?_); omega; omega; omega; conv => whnf)
              | ((with_reducible refine Wr.inr ?_ ?_); (first | omega | (simp; omega)); conv => whnf)
              | ((with_reducible refine Wr.inu ?_ ?_); omega; conv => whnf)
              | ((with_reducible refine AltK.l ?_); (conv => whnf); (first | (refine CallK.mk _ (h5) ?_)); conv => whnf)
              | (exfalso; first | omega | contradiction))
            refine Again.au (i + 1) (by omega) (by omega) (by refine ⟨?_, ?_, rfl⟩ <;> (repeat' (first | exact True.intro | exact rfl | refine ⟨?_, ?_⟩ | (intro h; cases h; done) | (intro h; exact h) | exact map_snoc | (refine own_congr ?_; simp; done) | (refine int_congr ?_; (first | omega | (simp; omega))) | (simp; done) | ((first | refine own_congr ?_ | refine int_congr ?_ | skip); simp [hst,gdD]; done) | ((first | refine own_congr ?_ | refine int_congr ?_); simp [hst,gdD]; omega) | (show @Eq (List Go.Vm.D) _ []; simp [hst,gdD]; done) | (simp [D.cells, hst,gdD]; done))))
        · have ei : i = o.length := by omega
          subst ei
          rw [List.take_length] at hgl ⊢
          have h6 := EvX.at1t (xs := []) (xv_SortI ((thinO r o).1.map Sg.n) (by rw [List.length_map]; omega)) 201
          have h7 := EvX.at1t (xs := [.fn 86 []]) (xv_SortG (thinO r o).2 hnk (by omega)) 202
          conv => whnf
          repeat' (first
            | ((with_reducible refine Split.of_true ?_); conv => whnf)
            | ((with_reducible refine Split.of_false ?_); conv => whnf)
            | ((with_reducible refine Split.neg ?_))
            | ((with_reducible refine Split.is_true ?_ ?_); decide; conv => whnf)
            | ((with_reducible refine Split.is_false ?_ ?_); decide; conv => whnf)
            | ((with_reducible refine Split.nez (fun _ => ?_) (fun _ => ?_)) <;> conv => whnf)
            | ((with_reducible refine Split.eqz (fun _ => ?_) (fun _ => ?_)) <;> conv => whnf)
            | ((with_reducible refine Split.and ?_))
            | ((with_reducible refine Split.or ?_))
            | ((with_reducible refine Split.streq (fun _ => ?_) (fun _ => ?_)) <;> conv => whnf)
            | ((with_reducible refine Split.dec (fun _ => ?_) (fun _ => ?_)) <;> conv => whnf)
            | ((with_reducible refine Split.mk (fun _ => ?_) (fun _ => ?_)) <;> conv => whnf)
            | ((with_reducible refine NilK.mk (fun _ => ?_) ?_) <;> conv => whnf)
            | ((with_reducible refine AltK.l ?_); (conv => whnf); (with_reducible refine Need.mk ?_ ?_); (first | omega | (refine ⟨?_, ?_⟩ <;> simp <;> omega) | (simp; omega)); conv => whnf)
            | ((with_reducible refine Need.mk ?_ ?_); (first | omega | rfl | decide | (refine ⟨?_, ?_⟩ <;> simp <;> omega) | (simp; omega)); conv => whnf)
            | ((with_reducible refine Wr.quo ?_ ?_ ?_ ?_); omega; omega; omega; conv => whnf)
            | ((with_reducible refine Wr.inr ?_ ?_); (first | omega | (simp; omega)); conv => whnf)
            | ((with_reducible refine Wr.inu ?_ ?_); omega; conv => whnf)
            | ((with_reducible refine AltK.r ?_); (conv => whnf); (first | (refine CallX.mk _ _ (h6) rfl ?_) | (refine CallX.mk _ _ (h7) rfl ?_)); conv => whnf)
            | (exfalso; first | omega | contradiction))
          rfl
    · rw [if_pos r0]
      refine ev_of_awp tysOk mixed (fn := Tryz.f30) Tryz.func30 rfl rfl rfl ?_
      conv => whnf
      repeat' (first
        | ((with_reducible refine Split.of_true ?_); conv => whnf)
        | ((with_reducible refine Split.of_false ?_); conv => whnf)
        | ((with_reducible refine Split.neg ?_))
        | ((with_reducible refine Split.is_true ?_ ?_); decide; conv => whnf)
        | ((with_reducible refine Split.is_false ?_ ?_); decide; conv => whnf)
        | ((with_reducible refine Split.nez (fun _ => ?_) (fun _ => ?_)) <;> conv => whnf)
        | ((with_reducible refine Split.eqz (fun _ => ?_) (fun _ => ?_)) <;> conv => whnf)
        | ((with_reducible refine Split.and ?_))
        | ((with_reducible refine Split.or ?_))
        | ((with_reducible refine Split.streq (fun _ => ?_) (fun _ => ?_)) <;> conv => whnf)
        | ((with_reducible refine Split.dec (fun _ => ?_) (fun _ => ?_)) <;> conv => whnf)
        | ((with_reducible refine Split.mk (fun _ => ?_) (fun _ => ?_)) <;> conv => whnf)
        | ((with_reducible refine NilK.mk (fun _ => ?_) ?_) <;> conv => whnf)
        | ((with_reducible refine AltK.l ?_); (conv => whnf); (with_reducible refine Need.mk ?_ ?_); (first | omega | (refine ⟨?_, ?_⟩ <;> simp <;> omega) | (simp; omega)); conv => whnf)
        | ((with_reducible refine Need.mk ?_ ?_); (first | omega | rfl | decide | (refine ⟨?_, ?_⟩ <;> simp <;> omega) | (simp; omega)); conv => whnf)
        | ((with_reducible refine Wr.quo ?_ ?_ ?_ ?_); omega; omega; omega; conv => whnf)
        | ((with_reducible refine Wr.inr ?_ ?_); (first | omega | (simp; omega)); conv => whnf)
        | ((with_reducible refine Wr.inu ?_ ?_); omega; conv => whnf)
        | ((with_reducible refine AltK.l ?_); (conv => whnf); (first | (refine CallK.mk _ (h1) ?_) | (refine CallK.mk _ (h2) ?_)); conv => whnf)
        | (exfalso; first | omega | contradiction))
      all_goals simp_all [retOf, thE, thD, iD]
  · rw [thinRes, if_pos c0]
    refine ev_of_awp tysOk mixed (fn := Tryz.f30) Tryz.func30 rfl rfl rfl ?_
    conv => whnf
    repeat' (first
      | ((with_reducible refine Split.of_true ?_); conv => whnf)
      | ((with_reducible refine Split.of_false ?_); conv => whnf)
      | ((with_reducible refine Split.neg ?_))
      | ((with_reducible refine Split.is_true ?_ ?_); decide; conv => whnf)
      | ((with_reducible refine Split.is_false ?_ ?_); decide; conv => whnf)
      | ((with_reducible refine Split.nez (fun _ => ?_) (fun _ => ?_)) <;> conv => whnf)
      | ((with_reducible refine Split.eqz (fun _ => ?_) (fun _ => ?_)) <;> conv => whnf)
      | ((with_reducible refine Split.and ?_))
      | ((with_reducible refine Split.or ?_))
      | ((with_reducible refine Split.streq (fun _ => ?_) (fun _ => ?_)) <;> conv => whnf)
      | ((with_reducible refine Split.dec (fun _ => ?_) (fun _ => ?_)) <;> conv => whnf)
      | ((with_reducible refine Split.mk (fun _ => ?_) (fun _ => ?_)) <;> conv => whnf)
      | ((with_reducible refine NilK.mk (fun _ => ?_) ?_) <;> conv => whnf)
      | ((with_reducible refine AltK.l ?_); (conv => whnf); (with_reducible refine Need.mk ?_ ?_); (first | omega | (refine ⟨?_, ?_⟩ <;> simp <;> omega) | (simp; omega)); conv => whnf)
      | ((with_reducible refine Need.mk ?_ ?_); (first | omega | rfl | decide | (refine ⟨?_, ?_⟩ <;> simp <;> omega) | (simp; omega)); conv => whnf)
      | ((with_reducible refine Wr.quo ?_ ?_ ?_ ?_); omega; omega; omega; conv => whnf)
      | ((with_reducible refine Wr.inr ?_ ?_); (first | omega | (simp; omega)); conv => whnf)
      | ((with_reducible refine Wr.inu ?_ ?_); omega; conv => whnf)
      | ((with_reducible refine AltK.l ?_); (conv => whnf); (first | (refine CallK.mk _ (h1) ?_) | (refine CallK.mk _ (h2) ?_)); conv => whnf)
      | (exfalso; first | omega | contradiction))
    all_goals simp_all [retOf, thE, thD, iD]
end Go.Proofs.Tryz
end

section
namespace Go.Proofs.Tryz
open Go Go.Vm Go.Sort
/-! Plain laws of sorted lists. -/
theorem sorted_unique {α : Type} {lt : α → α → Prop} (has : ∀ a b, lt a b → ¬ lt b a) : ∀ {l m : List α}, l.Perm m → l.Pairwise lt → m.Pairwise lt → l = m
  | [], m, hp, _, _ => by rw [List.nil_perm.1 hp]
  | a :: l, [], hp, _, _ => by have := hp.length_eq; simp at this
  | a :: l, b :: m, hp, hl, hm => by
    have hab : a = b := by
      have h1 : a ∈ b :: m := hp.subset List.mem_cons_self
      have h2 : b ∈ a :: l := hp.symm.subset List.mem_cons_self
      rcases List.mem_cons.1 h1 with h1 | h1
      · exact h1
      · rcases List.mem_cons.1 h2 with h2 | h2
        · exact h2.symm
        · exact absurd ((List.pairwise_cons.1 hl).1 b h2) (has b a ((List.pairwise_cons.1 hm).1 a h1))
    subst hab
    rw [sorted_unique has (List.Perm.cons_inv hp) (List.pairwise_cons.1 hl).2 (List.pairwise_cons.1 hm).2]
theorem sortL_sorted {α : Type} {cf : α → α → Int} (hO : SWO fun x y => decide (cf x y < 0)) (l : List α) : (sortL cf l).Pairwise fun a b => ¬ cf b a < 0 := by
  have h := List.pairwise_mergeSort (le := fun x y => !decide (cf y x < 0)) (fun a b c h1 h2 => by
    simp only [Bool.not_eq_true', decide_eq_false_iff_not] at h1 h2 ⊢
    have := hO.ntrans c b a (by simpa using h2) (by simpa using h1)
    simpa using this) (fun a b => by
    simp only [Bool.or_eq_true, Bool.not_eq_true', decide_eq_false_iff_not]
    by_cases h : cf b a < 0
    · right
      intro h'
      have := hO.trans a b a (by simpa using h') (by simpa using h)
      rw [hO.irrefl] at this; cases this
    · exact .inl h) l
  refine h.imp fun {a b} h => ?_
  simpa using h
theorem sortL_strict {α : Type} {cf : α → α → Int} (hO : SWO fun x y => decide (cf x y < 0)) {l : List α} (hn : l.Nodup) (hT : ∀ x ∈ l, ∀ y ∈ l, ¬ cf x y < 0 → ¬ cf y x < 0 → x = y) : (sortL cf l).Pairwise fun a b => cf a b < 0 := by
  have hnd : (sortL cf l).Nodup := (sortL_perm cf l).nodup_iff.2 hn
  have h := (sortL_sorted hO l).and hnd
  refine List.Pairwise.imp_of_mem ?_ h
  intro a b ha hb ⟨h1, h2⟩
  have ha := (sortL_perm cf l).subset ha
  have hb := (sortL_perm cf l).subset hb
  by_cases h3 : cf a b < 0
  · exact h3
  · exact absurd (hT a ha b hb h3 h1) h2
theorem sortL_eq {α : Type} {cf : α → α → Int} (hO : SWO fun x y => decide (cf x y < 0)) {l m : List α} (hp : m.Perm l) (hs : m.Pairwise fun a b => cf a b < 0) : m = sortL cf l := by
  have has : ∀ a b, cf a b < 0 → ¬ cf b a < 0 := fun a b h1 h2 => by
    have := hO.trans a b a (by simpa using h1) (by simpa using h2)
    rw [hO.irrefl] at this; cases this
  have hn : m.Nodup := hs.imp fun {a b} h (e : a = b) => by subst e; exact has a a h h
  have hln : l.Nodup := hp.nodup_iff.1 hn
  refine sorted_unique has (hp.trans (sortL_perm cf l).symm) hs (sortL_strict hO hln fun x hx y hy h1 h2 => ?_)
  have hx := hp.symm.subset hx
  have hy := hp.symm.subset hy
  obtain ⟨i, hi, rfl⟩ := List.getElem_of_mem hx
  obtain ⟨j, hj, rfl⟩ := List.getElem_of_mem hy
  rcases Nat.lt_trichotomy i j with h3 | h3 | h3
  · exact absurd (List.pairwise_iff_getElem.1 hs i j hi hj h3) h1
  · subst h3; rfl
  · exact absurd (List.pairwise_iff_getElem.1 hs j i hj hi h3) h2
/-- What is least among what is not taken yet comes next. -/
theorem pick_next {α : Type} {lt : α → α → Prop} (has : ∀ a b, lt a b → ¬ lt b a) {l o : List α} (hp : o.Perm l) (hs : o.Pairwise lt) {n : Nat} {x : α} (hx : x ∈ l) (hxn : x ∉ o.take n) (hm : ∀ y ∈ l, y ∉ o.take n → y = x ∨ lt x y) : o[n]? = some x := by
  have hxo : x ∈ o := hp.symm.subset hx
  have hnd : o.Nodup := hs.imp fun {a b} h (e : a = b) => by subst e; exact has a a h h
  rw [← List.take_append_drop n o, List.mem_append] at hxo
  have hxd : x ∈ o.drop n := hxo.resolve_left hxn
  cases hd : o[n]? with
  | none =>
    rw [List.drop_eq_nil_of_le (List.getElem?_eq_none_iff.1 hd)] at hxd
    cases hxd
  | some z =>
    have hz : z ∈ o := List.mem_of_getElem? hd
    have hzn : z ∉ o.take n := by
      intro h
      obtain ⟨j, hj, e⟩ := List.mem_take_iff_getElem.1 h
      obtain ⟨h1, h2⟩ := List.getElem?_eq_some_iff.1 hd
      have := List.pairwise_iff_getElem.1 hs j n (by omega) h1 (by omega)
      rw [e, h2] at this
      exact has _ _ this this
    rcases hm z (hp.subset hz) hzn with rfl | h
    · rfl
    · rw [drop_of hd] at hxd
      rcases List.mem_cons.1 hxd with rfl | h'
      · rfl
      · have h2 : (z :: o.drop (n + 1)).Pairwise lt := by rw [← drop_of hd]; exact hs.drop
        exact absurd ((List.pairwise_cons.1 h2).1 x h') (has x z h)
theorem sortZ_perm (l : List Int) : (sortZ l).Perm l := List.mergeSort_perm _ _
theorem sortZ_sorted (l : List Int) : (sortZ l).Pairwise fun a b => a ≤ b := by
  have h := List.pairwise_mergeSort (le := fun x y : Int => decide (x ≤ y)) (fun a b c h1 h2 => by simp at h1 h2 ⊢; omega) (fun a b => by simp; omega) l
  exact h.imp fun {a b} h => by simpa using h
theorem sortedZ_unique : ∀ {l m : List Int}, l.Perm m → l.Pairwise (fun a b => a ≤ b) → m.Pairwise (fun a b => a ≤ b) → l = m
  | [], m, hp, _, _ => by rw [List.nil_perm.1 hp]
  | a :: l, [], hp, _, _ => by have := hp.length_eq; simp at this
  | a :: l, b :: m, hp, hl, hm => by
    have hab : a = b := by
      have h1 : a ∈ b :: m := hp.subset List.mem_cons_self
      have h2 : b ∈ a :: l := hp.symm.subset List.mem_cons_self
      rcases List.mem_cons.1 h1 with h1 | h1
      · exact h1
      · rcases List.mem_cons.1 h2 with h2 | h2
        · exact h2.symm
        · have := (List.pairwise_cons.1 hl).1 b h2
          have := (List.pairwise_cons.1 hm).1 a h1
          omega
    subst hab
    rw [sortedZ_unique (List.Perm.cons_inv hp) (List.pairwise_cons.1 hl).2 (List.pairwise_cons.1 hm).2]
theorem sortZ_eq {l m : List Int} (hp : m.Perm l) (hs : m.Pairwise fun a b => a ≤ b) : m = sortZ l := sortedZ_unique (hp.trans (sortZ_perm l).symm) hs (sortZ_sorted l)
end Go.Proofs.Tryz
end

section
/- Openings of typed arguments: marks, gauges. -/
namespace Go.Proofs.Tryz
open Go Go.Vm
def cMark : List Cs := [.int .i64, .int .i64]
theorem int_of {k : IntKind} {d : D} (h : Ty (.int k) d) : ∃ n, d = .int k n ∧ (Lit.int k n).wf = true := by cases h; exact ⟨_, rfl, by assumption⟩
theorem sl_of {agg : Bool} {cs : List Cs} {d : D} (h : Ty (.sl agg cs) d) : ∃ es, d = .sl cs.length es ∧ (∀ e ∈ es, TyV (agg, cs) e) ∧ es.length ≤ 9223372036854775807 := by
  cases h with
  | sl hk hl h hn => exact ⟨_, rfl, fun e he => ⟨hk e he, hl e he, h e he⟩, hn⟩
theorem agg_of {cs : List Cs} {d : D} (h : TyV (true, cs) d) : ∃ ds, d = .agg ds ∧ ds.length = cs.length ∧ ∀ (j : Nat) c e, cs[j]? = some c → ds[j]? = some e → Ty c e := by
  obtain ⟨ds, rfl⟩ := h.1.1 rfl
  exact ⟨ds, rfl, h.2.1, h.2.2⟩
theorem one_of {c : Cs} {d : D} (h : TyV (false, [c]) d) : Ty c d := by
  have h1 := h.1.2 rfl
  have := h.2.2 0 c d rfl
  rw [(one_cells h1).1] at this
  exact this rfl
theorem map_of {α : Type} {f : α → D} {Q : D → Prop} (hf : ∀ d, Q d → ∃ a, d = f a) : ∀ {es : List D}, (∀ e ∈ es, Q e) → ∃ l : List α, es = l.map f
  | [], _ => ⟨[], rfl⟩
  | e :: es, h => by
    obtain ⟨a, rfl⟩ := hf e (h e (List.mem_cons_self ..))
    obtain ⟨l, rfl⟩ := map_of hf (fun e he => h e (List.mem_cons_of_mem _ he))
    exact ⟨a :: l, rfl⟩
theorem mark_of {d : D} (h : TyV (true, cMark) d) : ∃ m, d = mD m := by
  obtain ⟨ds, rfl, hl, hc⟩ := agg_of h
  match ds, hl with
  | [a, b], _ =>
    obtain ⟨x, rfl, -⟩ := int_of (hc 0 _ a rfl rfl)
    obtain ⟨y, rfl, -⟩ := int_of (hc 1 _ b rfl rfl)
    exact ⟨⟨x, y⟩, rfl⟩
end Go.Proofs.Tryz
end

section
namespace Go.Proofs.Tryz
open Go Go.Vm Go.Sort
set_option maxRecDepth 20000
set_option maxHeartbeats 2000000
def exS : List Sg := [⟨1, 0, 0, -510, -500⟩, ⟨2, 30, 40, -480, -470⟩, ⟨3, 60, 80, -460, -450⟩, ⟨4, 900, 0, -900, -890⟩]
theorem ev_example : Ev Tryz.prog 65 [] (.sl 5 (exS.map sgD)) := by
  refine ev_of_awp tysOk mixed (fn := Tryz.f65) Tryz.func65 rfl rfl rfl ?_
  conv => whnf
  repeat' (first
    | ((with_reducible refine Split.of_true ?_); conv => whnf)
    | ((with_reducible refine Split.of_false ?_); conv => whnf)
    | ((with_reducible refine Split.neg ?_))
    | ((with_reducible refine Split.is_true ?_ ?_); decide; conv => whnf)
    | ((with_reducible refine Split.is_false ?_ ?_); decide; conv => whnf)
    | ((with_reducible refine Split.nez (fun _ => ?_) (fun _ => ?_)) <;> conv => whnf)
    | ((with_reducible refine Split.eqz (fun _ => ?_) (fun _ => ?_)) <;> conv => whnf)
    | ((with_reducible refine Split.and ?_))
    | ((with_reducible refine Split.or ?_))
    | ((with_reducible refine Split.streq (fun _ => ?_) (fun _ => ?_)) <;> conv => whnf)
    | ((with_reducible refine Split.dec (fun _ => ?_) (fun _ => ?_)) <;> conv => whnf)
    | ((with_reducible refine Split.mk (fun _ => ?_) (fun _ => ?_)) <;> conv => whnf)
    | ((with_reducible refine NilK.mk (fun _ => ?_) ?_) <;> conv => whnf)
    | ((with_reducible refine AltK.l ?_); (conv => whnf); (with_reducible refine Need.mk ?_ ?_); (first | omega | (refine ⟨?_, ?_⟩ <;> simp <;> omega) | (simp; omega)); conv => whnf)
    | ((with_reducible refine Need.mk ?_ ?_); (first | omega | rfl | decide | (refine ⟨?_, ?_⟩ <;> simp <;> omega) | (simp; omega)); conv => whnf)
    | ((with_reducible refine Wr.quo ?_ ?_ ?_ ?_); omega; omega; omega; conv => whnf)
    | ((with_reducible refine Wr.inr ?_ ?_); (first | omega | (simp; omega)); conv => whnf)
    | ((with_reducible refine Wr.inu ?_ ?_); omega; conv => whnf)
    | (exfalso; first | omega | contradiction))
  rfl
theorem exS_sorted : sortL cfThin exS = [⟨3, 60, 80, -460, -450⟩, ⟨2, 30, 40, -480, -470⟩, ⟨1, 0, 0, -510, -500⟩, ⟨4, 900, 0, -900, -890⟩] :=
  (sortL_eq swoThin (by decide) (by decide)).symm
theorem exS_thin : thinRes exS 50 = ([1, 3, 4], [(2, 3)], 0) := by
  have e1 : (thinO 50 (sortL cfThin exS)) = ([⟨3, 60, 80, -460, -450⟩, ⟨1, 0, 0, -510, -500⟩, ⟨4, 900, 0, -900, -890⟩], [(2, 3)]) := by rw [exS_sorted]; decide
  rw [thinRes, if_neg (by decide), if_neg (by decide), e1]
  have e2 : [1, 3, 4] = sortZ ([⟨3, 60, 80, -460, -450⟩, ⟨1, 0, 0, -510, -500⟩, ⟨4, 900, 0, -900, -890⟩].map Sg.n) := sortZ_eq (by decide) (by decide)
  have e3 : [((2 : Int), (3 : Int))] = sortL (fun a b => cmpI a.1 b.1) [(2, 3)] := sortL_eq ⟨fun x => by simp only [cmpI_neg, decide_eq_false_iff_not]; omega, fun x y z => by simp only [cmpI_neg, decide_eq_true_eq]; omega, fun x y z => by simp only [cmpI_neg, decide_eq_false_iff_not]; omega⟩ (.refl _) (by decide)
  rw [← e2, ← e3]
def pierS : Ga := ⟨⟨#[112, 105, 101, 114]⟩, 0, 5, [⟨0, 100⟩, ⟨20, 100⟩]⟩
def rawS : Rw := ⟨7, 10, 0, 0, 500, 40, 10⟩
theorem pier_red : rdE [pierS] rawS = (⟨7, 0, 0, -455, -425⟩, 0) := by decide
theorem ev_awake3 : Ev Tryz.prog 18 [] (.bool true) := by
  have h := ev_Reduce [pierS] rawS
  have h2 := ev_Thin exS 50
  rw [pier_red] at h
  rw [exS_thin] at h2
  refine ev_of_awp tysOk mixed (fn := Tryz.f18) Tryz.func18 rfl rfl rfl ?_
  conv => whnf
  repeat' (first
    | ((refine PickE.mk _ rfl ?_); conv => whnf)
    | ((with_reducible refine Split.of_true ?_); conv => whnf)
    | ((with_reducible refine Split.of_false ?_); conv => whnf)
    | ((with_reducible refine Split.neg ?_))
    | ((with_reducible refine Split.is_true ?_ ?_); decide; conv => whnf)
    | ((with_reducible refine Split.is_false ?_ ?_); decide; conv => whnf)
    | ((with_reducible refine Split.nez (fun _ => ?_) (fun _ => ?_)) <;> conv => whnf)
    | ((with_reducible refine Split.eqz (fun _ => ?_) (fun _ => ?_)) <;> conv => whnf)
    | ((with_reducible refine Split.and ?_))
    | ((with_reducible refine Split.or ?_))
    | ((with_reducible refine Split.streq (fun _ => ?_) (fun _ => ?_)) <;> conv => whnf)
    | ((with_reducible refine Split.dec (fun _ => ?_) (fun _ => ?_)) <;> conv => whnf)
    | ((with_reducible refine Split.mk (fun _ => ?_) (fun _ => ?_)) <;> conv => whnf)
    | ((with_reducible refine NilK.mk (fun _ => ?_) ?_) <;> conv => whnf)
    | ((with_reducible refine AltK.l ?_); (conv => whnf); (with_reducible refine Need.mk ?_ ?_); (first | omega | (refine ⟨?_, ?_⟩ <;> simp <;> omega) | (simp; omega)); conv => whnf)
    | ((with_reducible refine Need.mk ?_ ?_); (first | omega | rfl | decide | (refine ⟨?_, ?_⟩ <;> simp <;> omega) | (simp; omega)); conv => whnf)
    | ((with_reducible refine Wr.quo ?_ ?_ ?_ ?_); omega; omega; omega; conv => whnf)
    | ((with_reducible refine Wr.inr ?_ ?_); (first | omega | (simp; omega)); conv => whnf)
    | ((with_reducible refine Wr.inu ?_ ?_); omega; conv => whnf)
    | ((with_reducible refine AltK.l ?_); (conv => whnf); (first | (refine CallK.mk _ (h) ?_) | (refine CallK.mk _ (ev_example) ?_) | (refine CallK.mk _ (h2) ?_) | (refine CallK.mk _ (ev_Ints [1, 3, 4] [1, 3, 4] (by simp)) ?_)); conv => whnf)
    | (exfalso; first | omega | contradiction))
  rfl
end Go.Proofs.Tryz
end

section
namespace Go.Proofs.Tryz
open Go Go.Vm Go.Sort
set_option maxRecDepth 20000
set_option maxHeartbeats 2000000
def findS (l : List Sg) (n : Int) : Int := match l.findIdx? (fun s => s.n == n) with
  | some i => (i : Int)
  | none => -1
theorem ev_Square (x y u v : Int) (hx : -1000000 ≤ x ∧ x ≤ 1000000 ∧ -1000000 ≤ y ∧ y ≤ 1000000) (hu : -1000000 ≤ u ∧ u ≤ 1000000 ∧ -1000000 ≤ v ∧ v ≤ 1000000) : Ev Tryz.prog 108 [iD x, iD y, iD u, iD v] (iD ((x - u) * (x - u) + (y - v) * (y - v))) := by
  have m1 := mul_bd (x := x - u) (y := x - u) (X := 2000000) (Y := 2000000) (by omega) (by omega)
  have m2 := mul_bd (x := y - v) (y := y - v) (X := 2000000) (Y := 2000000) (by omega) (by omega)
  refine ev_of_awp tysOk mixed (fn := Tryz.f108) Tryz.func108 rfl rfl rfl ?_
  conv => whnf
  repeat' (first
    | ((with_reducible refine Split.of_true ?_); conv => whnf)
    | ((with_reducible refine Split.of_false ?_); conv => whnf)
    | ((with_reducible refine Split.neg ?_))
    | ((with_reducible refine Split.is_true ?_ ?_); decide; conv => whnf)
    | ((with_reducible refine Split.is_false ?_ ?_); decide; conv => whnf)
    | ((with_reducible refine Split.nez (fun _ => ?_) (fun _ => ?_)) <;> conv => whnf)
    | ((with_reducible refine Split.eqz (fun _ => ?_) (fun _ => ?_)) <;> conv => whnf)
    | ((with_reducible refine Split.and ?_))
    | ((with_reducible refine Split.or ?_))
    | ((with_reducible refine Split.streq (fun _ => ?_) (fun _ => ?_)) <;> conv => whnf)
    | ((with_reducible refine Split.dec (fun _ => ?_) (fun _ => ?_)) <;> conv => whnf)
    | ((with_reducible refine Split.mk (fun _ => ?_) (fun _ => ?_)) <;> conv => whnf)
    | ((with_reducible refine NilK.mk (fun _ => ?_) ?_) <;> conv => whnf)
    | ((with_reducible refine AltK.l ?_); (conv => whnf); (with_reducible refine Need.mk ?_ ?_); (first | omega | (refine ⟨?_, ?_⟩ <;> simp <;> omega) | (simp; omega)); conv => whnf)
    | ((with_reducible refine Need.mk ?_ ?_); (first | omega | rfl | decide | (refine ⟨?_, ?_⟩ <;> simp <;> omega) | (simp; omega)); conv => whnf)
    | ((with_reducible refine Wr.quo ?_ ?_ ?_ ?_); omega; omega; omega; conv => whnf)
    | ((with_reducible refine Wr.inr ?_ ?_); (first | omega | (simp; omega)); conv => whnf)
    | ((with_reducible refine Wr.inu ?_ ?_); omega; conv => whnf)
    | (exfalso; first | omega | contradiction))
  rfl
end Go.Proofs.Tryz
end

section
namespace Go.Proofs.Tryz
open Go Go.Vm Go.Sort
/-! Plain laws of thinnings. -/
end Go.Proofs.Tryz
end

section
namespace Go.Proofs.Tryz
open Go Go.Vm Go.Sort
set_option maxRecDepth 20000
set_option maxHeartbeats 8000000
def dnF (o : List Sg) (s : Sg) : Bool := o.any fun t => t.n == s.n
theorem dnF_iff {o : List Sg} {s : Sg} : dnF o s = true ↔ ∃ t ∈ o, t.n = s.n := by simp [dnF]
theorem dnF_not {o : List Sg} {s : Sg} : dnF o s = false ↔ ∀ t ∈ o, t.n ≠ s.n := by simp [dnF]
theorem set_map {α : Type} {f g : α → D} {l : List α} {j : Nat} {x : α} {v : D} (hj : l[j]? = some x) (hx : g x = v) (hn : l.Nodup) (ho : ∀ y ∈ l, y ≠ x → g y = f y) : (l.map f).set j v = l.map g := by
  apply List.ext_getElem?
  intro i
  rw [List.getElem?_set, List.getElem?_map, List.getElem?_map, List.length_map]
  by_cases e : j = i
  · subst e
    rw [if_pos rfl, if_pos (List.getElem?_eq_some_iff.1 hj).1, hj]
    simp [hx]
  · rw [if_neg e]
    cases hi : l[i]? with
    | none => rfl
    | some y =>
      have : y ≠ x := by
        rintro rfl
        obtain ⟨a1, a2⟩ := List.getElem?_eq_some_iff.1 hi
        obtain ⟨b1, b2⟩ := List.getElem?_eq_some_iff.1 hj
        rcases Nat.lt_trichotomy j i with h | h | h
        · exact List.pairwise_iff_getElem.1 hn j i b1 a1 h (b2.trans a2.symm)
        · exact e h
        · exact List.pairwise_iff_getElem.1 hn i j a1 b1 h (a2.trans b2.symm)
      simp [ho y (List.mem_of_getElem? hi) this]
theorem noTwo_nodup {l : List Sg} (h : NoTwo l) : l.Nodup := by
  refine List.Pairwise.imp ?_ h
  rintro a b hab rfl
  exact hab rfl
theorem noTwo_perm {l m : List Sg} (hp : l.Perm m) (h : NoTwo l) : NoTwo m := hp.pairwise h (fun hab e => hab e.symm)
theorem dnF_snoc {o : List Sg} {n : Nat} {x s : Sg} (h : o[n]? = some x) : dnF (o.take (n + 1)) s = (dnF (o.take n) s || x.n == s.n) := by
  rw [take_snoc h, dnF, List.any_append]
  simp [dnF]
theorem dn_zero (l : List Sg) : (l.map fun s => D.bool (dnF [] s)) = List.replicate l.length (D.bool false) := List.map_const' (l := l) (b := D.bool false)
theorem find_num {l : List Sg} {m : Int} (h : m ∈ l.map Sg.n) : ∃ (j : Nat) (s : Sg), findS l m = (j : Int) ∧ l[j]? = some s ∧ s.n = m := by
  obtain ⟨s, hs, rfl⟩ := List.mem_map.1 h
  cases hf : l.findIdx? (fun t => t.n == s.n) with
  | none =>
    have := List.findIdx?_eq_none_iff.1 hf s hs
    simp at this
  | some j =>
    obtain ⟨h1, h2, _⟩ := List.findIdx?_eq_some_iff_getElem.1 hf
    refine ⟨j, l[j], ?_, List.getElem?_eq_getElem h1, by simpa using h2⟩
    rw [findS]; simp only [hf]
end Go.Proofs.Tryz
end

section
namespace Go.Proofs.Tryz
open Go Go.Vm Go.Sort
set_option maxRecDepth 20000
set_option maxHeartbeats 4000000
/-! Nearest soundings. -/
def cfNear (x y : Int) (a b : Sg) : Int := orI [cmpI (sqS a x y) (sqS b x y), cmpI a.n b.n]
theorem orI2 (a b : Int) : orI [a, b] < 0 ↔ a < 0 ∨ a = 0 ∧ b < 0 := by
  simp only [orI]
  repeat' split
  all_goals omega
theorem cfNear_lt (x y : Int) (a b : Sg) : cfNear x y a b < 0 ↔ sqS a x y < sqS b x y ∨ sqS a x y = sqS b x y ∧ a.n < b.n := by
  unfold cfNear
  rw [orI2]
  simp only [cmpI_neg, cmpI_zero]
theorem swoNear (x y : Int) : SWO fun a b => decide (cfNear x y a b < 0) where
  irrefl a := by simp only [cfNear_lt, decide_eq_false_iff_not]; omega
  trans a b c := by simp only [cfNear_lt, decide_eq_true_eq]; omega
  ntrans a b c := by simp only [cfNear_lt, decide_eq_false_iff_not]; omega
theorem near_tot (x y : Int) {l : List Sg} (hu : NoTwo l) : ∀ a ∈ l, ∀ b ∈ l, ¬ cfNear x y a b < 0 → ¬ cfNear x y b a < 0 → a = b := fun a ha b hb h1 h2 => noTwo_eq hu a ha b hb (by rw [cfNear_lt] at h1 h2; omega)
theorem ev_near1 {s : Sg} {f : Nat} {caps : List D} {b : Bool} (h : Ev Tryz.prog f ([sgD s] ++ caps) (.bool b)) : Ev Tryz.prog 141 [sgD s, .ref [.fn f caps] 0] (.bool (!b)) := by
  refine ev_of_awp tysOk mixed (fn := Tryz.f141) Tryz.func141 rfl rfl rfl ?_
  conv => whnf
  repeat' (first
    | ((with_reducible refine Split.of_true ?_); conv => whnf)
    | ((with_reducible refine Split.of_false ?_); conv => whnf)
    | ((with_reducible refine Split.neg ?_))
    | ((with_reducible refine Split.is_true ?_ ?_); decide; conv => whnf)
    | ((with_reducible refine Split.is_false ?_ ?_); decide; conv => whnf)
    | ((with_reducible refine Split.nez (fun _ => ?_) (fun _ => ?_)) <;> conv => whnf)
    | ((with_reducible refine Split.eqz (fun _ => ?_) (fun _ => ?_)) <;> conv => whnf)
    | ((with_reducible refine Split.and ?_))
    | ((with_reducible refine Split.or ?_))
    | ((with_reducible refine Split.streq (fun _ => ?_) (fun _ => ?_)) <;> conv => whnf)
    | ((with_reducible refine Split.dec (fun _ => ?_) (fun _ => ?_)) <;> conv => whnf)
    | ((with_reducible refine Split.mk (fun _ => ?_) (fun _ => ?_)) <;> conv => whnf)
    | ((with_reducible refine NilK.mk (fun _ => ?_) ?_) <;> conv => whnf)
    | ((with_reducible refine AltK.l ?_); (conv => whnf); (with_reducible refine Need.mk ?_ ?_); (first | omega | (refine ⟨?_, ?_⟩ <;> simp <;> omega) | (simp; omega)); conv => whnf)
    | ((with_reducible refine Need.mk ?_ ?_); (first | omega | rfl | decide | (refine ⟨?_, ?_⟩ <;> simp <;> omega) | (simp; omega)); conv => whnf)
    | ((with_reducible refine Wr.quo ?_ ?_ ?_ ?_); omega; omega; omega; conv => whnf)
    | ((with_reducible refine Wr.inr ?_ ?_); (first | omega | (simp; omega)); conv => whnf)
    | ((with_reducible refine Wr.inu ?_ ?_); omega; conv => whnf)
    | ((with_reducible refine AltK.l ?_); (conv => whnf); (first | (refine CallK.mk _ (h) ?_)); conv => whnf)
    | (exfalso; first | omega | contradiction))
  rfl
theorem ev_near2 (a b : Sg) (x y : Int) (ha : -1000000 ≤ a.x ∧ a.x ≤ 1000000 ∧ -1000000 ≤ a.y ∧ a.y ≤ 1000000) (hb : -1000000 ≤ b.x ∧ b.x ≤ 1000000 ∧ -1000000 ≤ b.y ∧ b.y ≤ 1000000) (hx : -1000000 ≤ x ∧ x ≤ 1000000 ∧ -1000000 ≤ y ∧ y ≤ 1000000) :
    Ev Tryz.prog 142 [sgD a, sgD b, .ref [iD x] 0, .ref [iD y] 0] (iD (cfNear x y a b)) := by
  have h1 := ev_square a x y ha hx
  have h2 := ev_square b x y hb hx
  have h := ev_Or [cmpI (sqS a x y) (sqS b x y), cmpI a.n b.n] (by simp)
  refine ev_of_awp tysOk mixed (fn := Tryz.f142) Tryz.func142 rfl rfl rfl ?_
  conv => whnf
  repeat' (first
    | ((with_reducible refine Split.of_true ?_); conv => whnf)
    | ((with_reducible refine Split.of_false ?_); conv => whnf)
    | ((with_reducible refine Split.neg ?_))
    | ((with_reducible refine Split.is_true ?_ ?_); decide; conv => whnf)
    | ((with_reducible refine Split.is_false ?_ ?_); decide; conv => whnf)
    | ((with_reducible refine Split.nez (fun _ => ?_) (fun _ => ?_)) <;> conv => whnf)
    | ((with_reducible refine Split.eqz (fun _ => ?_) (fun _ => ?_)) <;> conv => whnf)
    | ((with_reducible refine Split.and ?_))
    | ((with_reducible refine Split.or ?_))
    | ((with_reducible refine Split.streq (fun _ => ?_) (fun _ => ?_)) <;> conv => whnf)
    | ((with_reducible refine Split.dec (fun _ => ?_) (fun _ => ?_)) <;> conv => whnf)
    | ((with_reducible refine Split.mk (fun _ => ?_) (fun _ => ?_)) <;> conv => whnf)
    | ((with_reducible refine NilK.mk (fun _ => ?_) ?_) <;> conv => whnf)
    | ((with_reducible refine AltK.l ?_); (conv => whnf); (with_reducible refine Need.mk ?_ ?_); (first | omega | (refine ⟨?_, ?_⟩ <;> simp <;> omega) | (simp; omega)); conv => whnf)
    | ((with_reducible refine Need.mk ?_ ?_); (first | omega | rfl | decide | (refine ⟨?_, ?_⟩ <;> simp <;> omega) | (simp; omega)); conv => whnf)
    | ((with_reducible refine Wr.quo ?_ ?_ ?_ ?_); omega; omega; omega; conv => whnf)
    | ((with_reducible refine Wr.inr ?_ ?_); (first | omega | (simp; omega)); conv => whnf)
    | ((with_reducible refine Wr.inu ?_ ?_); omega; conv => whnf)
    | ((with_reducible refine AltK.l ?_); (conv => whnf); (first | (refine CallK.mk _ (h1) ?_) | (refine CallK.mk _ (h2) ?_) | (refine CallK.mk _ (ev_Compare _ _) ?_) | (refine CallK.mk _ (h) ?_)); conv => whnf)
    | (exfalso; first | omega | contradiction))
  rfl
theorem xv_SortNear (l : List Sg) (x y : Int) (hu : NoTwo l) (hl : l.length ≤ 500) (hp : ∀ s ∈ l, -1000000 ≤ s.x ∧ s.x ≤ 1000000 ∧ -1000000 ≤ s.y ∧ s.y ≤ 1000000) (hx : -1000000 ≤ x ∧ x ≤ 1000000 ∧ -1000000 ≤ y ∧ y ≤ 1000000) :
    EvX Tryz.prog 77 [.own 1000 5 (l.map sgD).length, .d (.fn 142 [.ref [iD x] 0, .ref [iD y] 0])] [(1000, .row 36 5 (l.map sgD) false)] (.tup []) [(1000, .row 36 5 ((sortL (cfNear x y) l).map sgD) false)] := by
  have h := EvX.sortFunc ly_LyS sgD 5 (fun w => isAgg36 w) (fun w => sizeOf36 w) (fun _ => rfl) (fun x c hc => by
    simp only [sgD, D.cells, List.mem_cons, List.mem_nil_iff, or_false] at hc
    rcases hc with rfl | rfl | rfl | rfl | rfl <;> rfl) (fun x => ⟨_, rfl⟩) (cfNear x y) (swoNear x y) 142 [.ref [iD x] 0, .ref [iD y] 0] l (fun a ha b hb h1 h2 => noTwo_eq hu a ha b hb (by
    rw [cfNear_lt] at h1 h2; omega)) (fun a ha b hb => ev_near2 a b x y (hp a ha) (hp b hb) hx) (by omega) 1000
  rw [List.length_map]
  exact h
def nearS (x y : Int) (p : Sg → Bool) (l : List Sg) : List Sg := sortL (cfNear x y) (l.filter p)
theorem near_len (x y : Int) (p : Sg → Bool) (l : List Sg) : (nearS x y p l).length ≤ l.length := by rw [nearS, sortL_len]; exact List.length_filter_le _ _
theorem near_mem {x y : Int} {p : Sg → Bool} {l : List Sg} {s : Sg} (h : s ∈ nearS x y p l) : s ∈ l ∧ p s = true := List.mem_filter.1 ((sortL_perm _ _).subset h)
theorem ev_nearest (l : List Sg) (x y : Int) (f : Nat) (caps : List D) (p : Sg → Bool) (hu : NoTwo l) (hl : l.length ≤ 500) (hp : ∀ s ∈ l, -1000000 ≤ s.x ∧ s.x ≤ 1000000 ∧ -1000000 ≤ s.y ∧ s.y ≤ 1000000) (hx : -1000000 ≤ x ∧ x ≤ 1000000 ∧ -1000000 ≤ y ∧ y ≤ 1000000)
    (hf : ∀ s ∈ l, Ev Tryz.prog f ([sgD s] ++ caps) (.bool (p s))) : Ev Tryz.prog 95 [.sl 5 (l.map sgD), iD x, iD y, .fn f caps] (.sl 5 ((nearS x y p l).map sgD)) := by
  have hlen : (l.map sgD).length = l.length := List.length_map _
  by_cases hn : l = []
  · subst hn
    have h0 : Ev Tryz.prog 77 [.sl 5 [], .fn 142 [.ref [iD x] 0, .ref [iD y] 0]] (.tup []) := Ev.sortNone ly_LyS 5 _ _
    have h1 : Ev Tryz.prog 92 [.sl 5 [], .fn 141 [.ref [.fn f caps] 0]] (.sl 5 []) := by
      have hi := ev_IndexS [] 141 [.ref [.fn f caps] 0] (fun _ => true) (by simp) (fun g hg => (by cases hg))
      refine ev_of_awp tysOk mixed (fn := Tryz.f92) Tryz.func92 rfl rfl rfl ?_
      conv => whnf
      repeat' (first
        | ((with_reducible refine Split.of_true ?_); conv => whnf)
        | ((with_reducible refine Split.of_false ?_); conv => whnf)
        | ((with_reducible refine Split.neg ?_))
        | ((with_reducible refine Split.is_true ?_ ?_); decide; conv => whnf)
        | ((with_reducible refine Split.is_false ?_ ?_); decide; conv => whnf)
        | ((with_reducible refine Split.nez (fun _ => ?_) (fun _ => ?_)) <;> conv => whnf)
        | ((with_reducible refine Split.eqz (fun _ => ?_) (fun _ => ?_)) <;> conv => whnf)
        | ((with_reducible refine Split.and ?_))
        | ((with_reducible refine Split.or ?_))
        | ((with_reducible refine Split.streq (fun _ => ?_) (fun _ => ?_)) <;> conv => whnf)
        | ((with_reducible refine Split.dec (fun _ => ?_) (fun _ => ?_)) <;> conv => whnf)
        | ((with_reducible refine Split.mk (fun _ => ?_) (fun _ => ?_)) <;> conv => whnf)
        | ((with_reducible refine NilK.mk (fun _ => ?_) ?_) <;> conv => whnf)
        | ((with_reducible refine AltK.l ?_); (conv => whnf); (with_reducible refine Need.mk ?_ ?_); (first | omega | (refine ⟨?_, ?_⟩ <;> simp <;> omega) | (simp; omega)); conv => whnf)
        | ((with_reducible refine Need.mk ?_ ?_); (first | omega | rfl | decide | (refine ⟨?_, ?_⟩ <;> simp <;> omega) | (simp; omega)); conv => whnf)
        | ((with_reducible refine Wr.quo ?_ ?_ ?_ ?_); omega; omega; omega; conv => whnf)
        | ((with_reducible refine Wr.inr ?_ ?_); (first | omega | (simp; omega)); conv => whnf)
        | ((with_reducible refine Wr.inu ?_ ?_); omega; conv => whnf)
        | ((with_reducible refine AltK.l ?_); (conv => whnf); (first | (refine CallK.mk _ (hi) ?_)); conv => whnf)
        | (exfalso; first | omega | contradiction))
      rfl
    refine ev_of_awp tysOk mixed (fn := Tryz.f95) Tryz.func95 rfl rfl rfl ?_
    conv => whnf
    repeat' (first
      | ((with_reducible refine Split.of_true ?_); conv => whnf)
      | ((with_reducible refine Split.of_false ?_); conv => whnf)
      | ((with_reducible refine Split.neg ?_))
      | ((with_reducible refine Split.is_true ?_ ?_); decide; conv => whnf)
      | ((with_reducible refine Split.is_false ?_ ?_); decide; conv => whnf)
      | ((with_reducible refine Split.nez (fun _ => ?_) (fun _ => ?_)) <;> conv => whnf)
      | ((with_reducible refine Split.eqz (fun _ => ?_) (fun _ => ?_)) <;> conv => whnf)
      | ((with_reducible refine Split.and ?_))
      | ((with_reducible refine Split.or ?_))
      | ((with_reducible refine Split.streq (fun _ => ?_) (fun _ => ?_)) <;> conv => whnf)
      | ((with_reducible refine Split.dec (fun _ => ?_) (fun _ => ?_)) <;> conv => whnf)
      | ((with_reducible refine Split.mk (fun _ => ?_) (fun _ => ?_)) <;> conv => whnf)
      | ((with_reducible refine NilK.mk (fun _ => ?_) ?_) <;> conv => whnf)
      | ((with_reducible refine AltK.l ?_); (conv => whnf); (with_reducible refine Need.mk ?_ ?_); (first | omega | (refine ⟨?_, ?_⟩ <;> simp <;> omega) | (simp; omega)); conv => whnf)
      | ((with_reducible refine Need.mk ?_ ?_); (first | omega | rfl | decide | (refine ⟨?_, ?_⟩ <;> simp <;> omega) | (simp; omega)); conv => whnf)
      | ((with_reducible refine Wr.quo ?_ ?_ ?_ ?_); omega; omega; omega; conv => whnf)
      | ((with_reducible refine Wr.inr ?_ ?_); (first | omega | (simp; omega)); conv => whnf)
      | ((with_reducible refine Wr.inu ?_ ?_); omega; conv => whnf)
      | ((with_reducible refine AltK.l ?_); (conv => whnf); (first | (refine CallK.mk _ (ev_cloneS [] (by simp)) ?_) | (refine CallK.mk _ (h0) ?_) | (refine CallK.mk _ (h1) ?_)); conv => whnf)
      | (exfalso; first | omega | contradiction))
    rw [nearS, List.filter_nil, show sortL (cfNear x y) [] = [] from List.eq_nil_of_length_eq_zero (by rw [sortL_len]; rfl)]
    rfl
  · have h3 := EvX.new1 (xs := [.sl 5 (l.map sgD)]) (xv_cloneS l (by have := List.length_pos_iff.2 hn; omega)) 11
    have hq : ∀ g ∈ l, Ev Tryz.prog 141 ([sgD g] ++ [.ref [.fn f caps] 0]) (.bool (!p g)) := fun g hg => ev_near1 (hf g hg)
    have hfl : (l.filter p).length ≤ l.length := List.length_filter_le _ _
    cases h0 : l.findIdx? fun g => !p g with
    | none =>
      have e : l.filter p = l := by
        rw [List.filter_eq_self]
        intro g hg
        have := List.findIdx?_eq_none_iff.1 h0 g hg
        simpa using this
      have h4 := EvX.at1o (xs := [.fn 141 [.ref [.fn f caps] 0]]) (xv_delS0 l _ _ _ (by omega) hq h0) 11
      have h5 := EvX.at1t (xs := [.fn 142 [.ref [iD x] 0, .ref [iD y] 0]]) (xv_SortNear l x y hu hl hp hx) 11
      have h4 := EvX.cap 7 [.fn f caps] false (xs := [.own 11 5 (l.map sgD).length, .fnv 141 [.box 7]]) h4 rfl
      have h5 := EvX.cap 5 [iD x] false (xs := [.own 11 5 (l.map sgD).length, .fnv 142 [.box 5, .dat (.ref [iD y] 0)]]) h5 rfl
      have h5 := EvX.cap 6 [iD y] false (xs := [.own 11 5 (l.map sgD).length, .fnv 142 [.box 5, .box 6]]) h5 rfl
      rw [nearS, e]
      refine ev_of_awp tysOk mixed (fn := Tryz.f95) Tryz.func95 rfl rfl rfl ?_
      conv => whnf
      repeat' (first
        | ((with_reducible refine Split.of_true ?_); conv => whnf)
        | ((with_reducible refine Split.of_false ?_); conv => whnf)
        | ((with_reducible refine Split.neg ?_))
        | ((with_reducible refine Split.is_true ?_ ?_); decide; conv => whnf)
        | ((with_reducible refine Split.is_false ?_ ?_); decide; conv => whnf)
        | ((with_reducible refine Split.nez (fun _ => ?_) (fun _ => ?_)) <;> conv => whnf)
        | ((with_reducible refine Split.eqz (fun _ => ?_) (fun _ => ?_)) <;> conv => whnf)
        | ((with_reducible refine Split.and ?_))
        | ((with_reducible refine Split.or ?_))
        | ((with_reducible refine Split.streq (fun _ => ?_) (fun _ => ?_)) <;> conv => whnf)
        | ((with_reducible refine Split.dec (fun _ => ?_) (fun _ => ?_)) <;> conv => whnf)
        | ((with_reducible refine Split.mk (fun _ => ?_) (fun _ => ?_)) <;> conv => whnf)
        | ((with_reducible refine NilK.mk (fun _ => ?_) ?_) <;> conv => whnf)
        | ((with_reducible refine AltK.l ?_); (conv => whnf); (with_reducible refine Need.mk ?_ ?_); (first | omega | (refine ⟨?_, ?_⟩ <;> simp <;> omega) | (simp; omega)); conv => whnf)
        | ((with_reducible refine Need.mk ?_ ?_); (first | omega | rfl | decide | (refine ⟨?_, ?_⟩ <;> simp <;> omega) | (simp; omega)); conv => whnf)
        | ((with_reducible refine Wr.quo ?_ ?_ ?_ ?_); omega; omega; omega; conv => whnf)
        | ((with_reducible refine Wr.inr ?_ ?_); (first | omega | (simp; omega)); conv => whnf)
        | ((with_reducible refine Wr.inu ?_ ?_); omega; conv => whnf)
        | ((with_reducible refine AltK.r ?_); (conv => whnf); (first | (refine CallX.mk _ _ (h3) rfl ?_) | (refine CallX.mk _ _ (h4) rfl ?_) | (refine CallX.mk _ _ (h5) rfl ?_)); conv => whnf)
        | (exfalso; first | omega | contradiction))
      rfl
    | some i0 =>
      have h4 := EvX.turn1 (xs := [.fn 141 [.ref [.fn f caps] 0]]) (xv_delS l _ _ _ (by omega) hq h0) 11 13 rfl
      simp only [Bool.not_not] at h4
      have h5 := EvX.at1t (xs := [.fn 142 [.ref [iD x] 0, .ref [iD y] 0]]) (xv_SortNear (l.filter p) x y (hu.filter _) (by omega) (fun s hs => hp s ((List.mem_filter.1 hs).1)) hx) 13
      have h4 := EvX.cap 7 [.fn f caps] false (xs := [.own 11 5 (l.map sgD).length, .fnv 141 [.box 7]]) h4 rfl
      have h5 := EvX.cap 5 [iD x] false (xs := [.own 13 5 ((l.filter p).map sgD).length, .fnv 142 [.box 5, .dat (.ref [iD y] 0)]]) h5 rfl
      have h5 := EvX.cap 6 [iD y] false (xs := [.own 13 5 ((l.filter p).map sgD).length, .fnv 142 [.box 5, .box 6]]) h5 rfl
      refine ev_of_awp tysOk mixed (fn := Tryz.f95) Tryz.func95 rfl rfl rfl ?_
      conv => whnf
      repeat' (first
        | ((with_reducible refine Split.of_true ?_); conv => whnf)
        | ((with_reducible refine Split.of_false ?_); conv => whnf)
        | ((with_reducible refine Split.neg ?_))
        | ((with_reducible refine Split.is_true ?_ ?_); decide; conv => whnf)
        | ((with_reducible refine Split.is_false ?_ ?_); decide; conv => whnf)
        | ((with_reducible refine Split.nez (fun _ => ?_) (fun _ => ?_)) <;> conv => whnf)
        | ((with_reducible refine Split.eqz (fun _ => ?_) (fun _ => ?_)) <;> conv => whnf)
        | ((with_reducible refine Split.and ?_))
        | ((with_reducible refine Split.or ?_))
        | ((with_reducible refine Split.streq (fun _ => ?_) (fun _ => ?_)) <;> conv => whnf)
        | ((with_reducible refine Split.dec (fun _ => ?_) (fun _ => ?_)) <;> conv => whnf)
        | ((with_reducible refine Split.mk (fun _ => ?_) (fun _ => ?_)) <;> conv => whnf)
        | ((with_reducible refine NilK.mk (fun _ => ?_) ?_) <;> conv => whnf)
        | ((with_reducible refine AltK.l ?_); (conv => whnf); (with_reducible refine Need.mk ?_ ?_); (first | omega | (refine ⟨?_, ?_⟩ <;> simp <;> omega) | (simp; omega)); conv => whnf)
        | ((with_reducible refine Need.mk ?_ ?_); (first | omega | rfl | decide | (refine ⟨?_, ?_⟩ <;> simp <;> omega) | (simp; omega)); conv => whnf)
        | ((with_reducible refine Wr.quo ?_ ?_ ?_ ?_); omega; omega; omega; conv => whnf)
        | ((with_reducible refine Wr.inr ?_ ?_); (first | omega | (simp; omega)); conv => whnf)
        | ((with_reducible refine Wr.inu ?_ ?_); omega; conv => whnf)
        | ((with_reducible refine AltK.r ?_); (conv => whnf); (first | (refine CallX.mk _ _ (h3) rfl ?_) | (refine CallX.mk _ _ (h4) rfl ?_) | (refine CallX.mk _ _ (h5) rfl ?_)); conv => whnf)
        | (exfalso; first | omega | contradiction))
      rfl
end Go.Proofs.Tryz
end
