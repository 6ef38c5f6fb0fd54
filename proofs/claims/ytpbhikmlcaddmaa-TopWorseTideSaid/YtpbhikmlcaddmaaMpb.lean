/- Texts TwL TwM, joined; what is not needed is left out. -/
import Derived.Test.YtpbhikmlcaddmaaMpa
import Derived.Test.YtpbhikmlcaddmaaMgH
section
namespace Go.Proofs.Try
open Go Go.Vm
set_option maxRecDepth 20000
set_option maxHeartbeats 2000000
theorem ev_IndexG (l : List Ga) (f : Nat) (caps : List D) (p : Ga → Bool) (hn : l.length ≤ 1000000) (hf : ∀ g ∈ l, Ev Try.prog f ([gD g] ++ caps) (.bool (p g))) :
    Ev Try.prog 53 [.sl 4 (l.map gD), .fn f caps] (.int .i64 (match l.findIdx? p with | some i => (i : Int) | none => -1)) := by
  have hlen : (l.map gD).length = l.length := List.length_map _
  refine ev_of_awp tysOk mixed (fn := Try.f53) Try.func53 rfl rfl rfl ?_
  conv => whnf
  repeat' (first
    | ((with_reducible refine Split.of_true ?_); conv => whnf)
    | ((with_reducible refine Split.of_false ?_); conv => whnf)
    | ((with_reducible refine Split.neg ?_))
    | ((with_reducible refine Split.is_true ?_ ?_); decide; conv => whnf)
    | ((with_reducible refine Split.is_false ?_ ?_); decide; conv => whnf)
    | ((with_reducible refine Split.nez (fun _ => ?_) (fun _ => ?_)) <;> conv => whnf)
    | ((with_reducible refine Split.eqz (fun _ => ?_) (fun _ => ?_)) <;> conv => whnf)
    | ((with_reducible refine Split.and ?_))
    | ((with_reducible refine Split.or ?_))
    | ((with_reducible refine Split.streq (fun _ => ?_) (fun _ => ?_)) <;> conv => whnf)
    | ((with_reducible refine Split.dec (fun _ => ?_) (fun _ => ?_)) <;> conv => whnf)
    | ((with_reducible refine Split.mk (fun _ => ?_) (fun _ => ?_)) <;> conv => whnf)
    | ((with_reducible refine NilK.mk (fun _ => ?_) ?_) <;> conv => whnf)
    | ((with_reducible refine AltK.l ?_); (conv => whnf); (with_reducible refine Need.mk ?_ ?_); (first | omega | (refine ⟨?_, ?_⟩ <;> simp <;> omega) | (simp; omega)); conv => whnf)
    | ((with_reducible refine Need.mk ?_ ?_); (first | omega | rfl | decide | (refine ⟨?_, ?_⟩ <;> simp <;> omega) | (simp; omega)); conv => whnf)
    | ((with_reducible refine Wr.quo ?_ ?_ ?_ ?_); omega; omega; omega; conv => whnf)
    | ((with_reducible refine Wr.inr ?_ ?_); (first | omega | (simp; omega)); conv => whnf)
    | ((with_reducible refine Wr.inu ?_ ?_); omega; conv => whnf)
    | (exfalso; first | omega | contradiction))
  refine LoopK.o2 (fun i : Nat => i ≤ l.length ∧ ∀ g ∈ l.take i, p g = false) (fun i => [(8, .d (.int .i64 i))]) (fun _ => []) (fun i => l.length - i) 0 (by simp) (by refine ⟨?_, ?_, rfl⟩ <;> (repeat' (first | exact True.intro | exact rfl | refine ⟨?_, ?_⟩ | (intro h; cases h; done) | (intro h; exact h) | exact map_snoc | (refine own_congr ?_; simp; done) | (refine int_congr ?_; (first | omega | (simp; omega))) | (simp; done)))) ?_
  rintro i ⟨hi, hp⟩
  have hn : (i : Int) < l.length → ∃ m, l[i]? = some m := fun h => some_of_lt (by omega)
  conv => whnf
  repeat' (first
    | ((with_reducible refine Split.of_true ?_); conv => whnf)
    | ((with_reducible refine Split.of_false ?_); conv => whnf)
    | ((with_reducible refine Split.neg ?_))
    | ((with_reducible refine Split.is_true ?_ ?_); decide; conv => whnf)
    | ((with_reducible refine Split.is_false ?_ ?_); decide; conv => whnf)
    | ((with_reducible refine Split.nez (fun _ => ?_) (fun _ => ?_)) <;> conv => whnf)
    | ((with_reducible refine Split.eqz (fun _ => ?_) (fun _ => ?_)) <;> conv => whnf)
    | ((with_reducible refine Split.and ?_))
    | ((with_reducible refine Split.or ?_))
    | ((with_reducible refine Split.streq (fun _ => ?_) (fun _ => ?_)) <;> conv => whnf)
    | ((with_reducible refine Split.dec (fun _ => ?_) (fun _ => ?_)) <;> conv => whnf)
    | ((with_reducible refine Split.mk (fun _ => ?_) (fun _ => ?_)) <;> conv => whnf)
    | ((with_reducible refine NilK.mk (fun _ => ?_) ?_) <;> conv => whnf)
    | ((with_reducible refine AltK.l ?_); (conv => whnf); (with_reducible refine Need.mk ?_ ?_); (first | omega | (refine ⟨?_, ?_⟩ <;> simp <;> omega) | (simp; omega)); conv => whnf)
    | ((with_reducible refine Need.mk ?_ ?_); (first | omega | rfl | decide | (refine ⟨?_, ?_⟩ <;> simp <;> omega) | (simp; omega)); conv => whnf)
    | ((with_reducible refine Wr.quo ?_ ?_ ?_ ?_); omega; omega; omega; conv => whnf)
    | ((with_reducible refine Wr.inr ?_ ?_); (first | omega | (simp; omega)); conv => whnf)
    | ((with_reducible refine Wr.inu ?_ ?_); omega; conv => whnf)
    | (exfalso; first | omega | contradiction))
  · obtain ⟨g, hg⟩ := hn (by omega)
    have hf := hf g (List.mem_of_getElem? hg)
    conv => whnf
    repeat' (first
      | ((refine PickE.map i hg (by omega) ?_); conv => whnf)
      | ((with_reducible refine Split.of_true ?_); conv => whnf)
      | ((with_reducible refine Split.of_false ?_); conv => whnf)
      | ((with_reducible refine Split.neg ?_))
      | ((with_reducible refine Split.is_true ?_ ?_); decide; conv => whnf)
      | ((with_reducible refine Split.is_false ?_ ?_); decide; conv => whnf)
      | ((with_reducible refine Split.nez (fun _ => ?_) (fun _ => ?_)) <;> conv => whnf)
      | ((with_reducible refine Split.eqz (fun _ => ?_) (fun _ => ?_)) <;> conv => whnf)
      | ((with_reducible refine Split.and ?_))
      | ((with_reducible refine Split.or ?_))
      | ((with_reducible refine Split.streq (fun _ => ?_) (fun _ => ?_)) <;> conv => whnf)
      | ((with_reducible refine Split.dec (fun _ => ?_) (fun _ => ?_)) <;> conv => whnf)
      | ((with_reducible refine Split.mk (fun _ => ?_) (fun _ => ?_)) <;> conv => whnf)
      | ((with_reducible refine NilK.mk (fun _ => ?_) ?_) <;> conv => whnf)
      | ((with_reducible refine AltK.l ?_); (conv => whnf); (with_reducible refine Need.mk ?_ ?_); (first | omega | (refine ⟨?_, ?_⟩ <;> simp <;> omega) | (simp; omega)); conv => whnf)
      | ((with_reducible refine Need.mk ?_ ?_); (first | omega | rfl | decide | (refine ⟨?_, ?_⟩ <;> simp <;> omega) | (simp; omega)); conv => whnf)
      | ((with_reducible refine Wr.quo ?_ ?_ ?_ ?_); omega; omega; omega; conv => whnf)
      | ((with_reducible refine Wr.inr ?_ ?_); (first | omega | (simp; omega)); conv => whnf)
      | ((with_reducible refine Wr.inu ?_ ?_); omega; conv => whnf)
      | (exfalso; first | omega | contradiction))
    refine AltK.l ?_
    conv => whnf
    refine CallK.mk _ hf ?_
    conv => whnf
    refine Split.mk (fun hpg => ?_) (fun hpg => ?_)
    · conv => whnf
      repeat' (first
        | ((with_reducible refine Split.of_true ?_); conv => whnf)
        | ((with_reducible refine Split.of_false ?_); conv => whnf)
        | ((with_reducible refine Split.neg ?_))
        | ((with_reducible refine Split.is_true ?_ ?_); decide; conv => whnf)
        | ((with_reducible refine Split.is_false ?_ ?_); decide; conv => whnf)
        | ((with_reducible refine Split.nez (fun _ => ?_) (fun _ => ?_)) <;> conv => whnf)
        | ((with_reducible refine Split.eqz (fun _ => ?_) (fun _ => ?_)) <;> conv => whnf)
        | ((with_reducible refine Split.and ?_))
        | ((with_reducible refine Split.or ?_))
        | ((with_reducible refine Split.streq (fun _ => ?_) (fun _ => ?_)) <;> conv => whnf)
        | ((with_reducible refine Split.dec (fun _ => ?_) (fun _ => ?_)) <;> conv => whnf)
        | ((with_reducible refine Split.mk (fun _ => ?_) (fun _ => ?_)) <;> conv => whnf)
        | ((with_reducible refine NilK.mk (fun _ => ?_) ?_) <;> conv => whnf)
        | ((with_reducible refine AltK.l ?_); (conv => whnf); (with_reducible refine Need.mk ?_ ?_); (first | omega | (refine ⟨?_, ?_⟩ <;> simp <;> omega) | (simp; omega)); conv => whnf)
        | ((with_reducible refine Need.mk ?_ ?_); (first | omega | rfl | decide | (refine ⟨?_, ?_⟩ <;> simp <;> omega) | (simp; omega)); conv => whnf)
        | ((with_reducible refine Wr.quo ?_ ?_ ?_ ?_); omega; omega; omega; conv => whnf)
        | ((with_reducible refine Wr.inr ?_ ?_); (first | omega | (simp; omega)); conv => whnf)
        | ((with_reducible refine Wr.inu ?_ ?_); omega; conv => whnf)
        | (exfalso; first | omega | contradiction))
      have e : l.findIdx? p = some i := by
        rw [List.findIdx?_eq_some_iff_getElem]
        refine ⟨by omega, by rw [(List.getElem?_eq_some_iff.1 hg).2]; exact hpg, fun j hj => ?_⟩
        have := hp l[j] (List.mem_take_iff_getElem.2 ⟨j, by omega, rfl⟩)
        rw [this]; decide
      rw [e]; rfl
    · conv => whnf
      conv => whnf
      repeat' (first
        | ((with_reducible refine Split.of_true ?_); conv => whnf)
        | ((with_reducible refine Split.of_false ?_); conv => whnf)
        | ((with_reducible refine Split.neg ?_))
        | ((with_reducible refine Split.is_true ?_ ?_); decide; conv => whnf)
        | ((with_reducible refine Split.is_false ?_ ?_); decide; conv => whnf)
        | ((with_reducible refine Split.nez (fun _ => ?_) (fun _ => ?_)) <;> conv => whnf)
        | ((with_reducible refine Split.eqz (fun _ => ?_) (fun _ => ?_)) <;> conv => whnf)
        | ((with_reducible refine Split.and ?_))
        | ((with_reducible refine Split.or ?_))
        | ((with_reducible refine Split.streq (fun _ => ?_) (fun _ => ?_)) <;> conv => whnf)
        | ((with_reducible refine Split.dec (fun _ => ?_) (fun _ => ?_)) <;> conv => whnf)
        | ((with_reducible refine Split.mk (fun _ => ?_) (fun _ => ?_)) <;> conv => whnf)
        | ((with_reducible refine NilK.mk (fun _ => ?_) ?_) <;> conv => whnf)
        | ((with_reducible refine AltK.l ?_); (conv => whnf); (with_reducible refine Need.mk ?_ ?_); (first | omega | (refine ⟨?_, ?_⟩ <;> simp <;> omega) | (simp; omega)); conv => whnf)
        | ((with_reducible refine Need.mk ?_ ?_); (first | omega | rfl | decide | (refine ⟨?_, ?_⟩ <;> simp <;> omega) | (simp; omega)); conv => whnf)
        | ((with_reducible refine Wr.quo ?_ ?_ ?_ ?_); omega; omega; omega; conv => whnf)
        | ((with_reducible refine Wr.inr ?_ ?_); (first | omega | (simp; omega)); conv => whnf)
        | ((with_reducible refine Wr.inu ?_ ?_); omega; conv => whnf)
        | (exfalso; first | omega | contradiction))
      refine Again.au (i + 1) ⟨by omega, fun x hx => ?_⟩ (by omega) (by refine ⟨?_, ?_, rfl⟩ <;> (repeat' (first | exact True.intro | exact rfl | refine ⟨?_, ?_⟩ | (intro h; cases h; done) | (intro h; exact h) | exact map_snoc | (refine own_congr ?_; simp; done) | (refine int_congr ?_; (first | omega | (simp; omega))) | (simp; done))))
      rw [take_snoc hg] at hx
      rcases List.mem_append.1 hx with hx | hx
      · exact hp x hx
      · rw [List.mem_singleton.1 hx]; exact hpg
  · have e : l.findIdx? p = none := by
      rw [List.findIdx?_eq_none_iff]
      intro x hx
      rw [← List.take_of_length_le (show l.length ≤ i by omega)] at hx
      exact hp x hx
    rw [e]; rfl
theorem ev_ContG (l : List Ga) (f : Nat) (caps : List D) (p : Ga → Bool) (hn : l.length ≤ 1000000) (hf : ∀ g ∈ l, Ev Try.prog f ([gD g] ++ caps) (.bool (p g))) :
    Ev Try.prog 38 [.sl 4 (l.map gD), .fn f caps] (.bool (l.any p)) := by
  have h := ev_IndexG l f caps p hn hf
  refine ev_of_awp tysOk mixed (fn := Try.f38) Try.func38 rfl rfl rfl ?_
  conv => whnf
  repeat' (first
    | ((with_reducible refine Split.of_true ?_); conv => whnf)
    | ((with_reducible refine Split.of_false ?_); conv => whnf)
    | ((with_reducible refine Split.neg ?_))
    | ((with_reducible refine Split.is_true ?_ ?_); decide; conv => whnf)
    | ((with_reducible refine Split.is_false ?_ ?_); decide; conv => whnf)
    | ((with_reducible refine Split.nez (fun _ => ?_) (fun _ => ?_)) <;> conv => whnf)
    | ((with_reducible refine Split.eqz (fun _ => ?_) (fun _ => ?_)) <;> conv => whnf)
    | ((with_reducible refine Split.and ?_))
    | ((with_reducible refine Split.or ?_))
    | ((with_reducible refine Split.streq (fun _ => ?_) (fun _ => ?_)) <;> conv => whnf)
    | ((with_reducible refine Split.dec (fun _ => ?_) (fun _ => ?_)) <;> conv => whnf)
    | ((with_reducible refine Split.mk (fun _ => ?_) (fun _ => ?_)) <;> conv => whnf)
    | ((with_reducible refine NilK.mk (fun _ => ?_) ?_) <;> conv => whnf)
    | ((with_reducible refine AltK.l ?_); (conv => whnf); (with_reducible refine Need.mk ?_ ?_); (first | omega | (refine ⟨?_, ?_⟩ <;> simp <;> omega) | (simp; omega)); conv => whnf)
    | ((with_reducible refine Need.mk ?_ ?_); (first | omega | rfl | decide | (refine ⟨?_, ?_⟩ <;> simp <;> omega) | (simp; omega)); conv => whnf)
    | ((with_reducible refine Wr.quo ?_ ?_ ?_ ?_); omega; omega; omega; conv => whnf)
    | ((with_reducible refine Wr.inr ?_ ?_); (first | omega | (simp; omega)); conv => whnf)
    | ((with_reducible refine Wr.inu ?_ ?_); omega; conv => whnf)
    | ((with_reducible refine AltK.l ?_); (conv => whnf); (first | (refine CallK.mk _ (h) ?_)); conv => whnf)
    | (exfalso; first | omega | contradiction))
  cases e : l.findIdx? p with
  | some i =>
    have : l.any p = true := by
      obtain ⟨h1, h2, -⟩ := List.findIdx?_eq_some_iff_getElem.1 e
      exact List.any_eq_true.2 ⟨_, List.getElem_mem h1, h2⟩
    rw [this]
    simp only [retOf, D.bool.injEq, decide_eq_true_eq]; omega
  | none =>
    have : l.any p = false := by
      rw [List.any_eq_false]
      intro x hx
      rw [List.findIdx?_eq_none_iff.1 e x hx]; decide
    rw [this]; rfl
def sameN (g h : Ga) : Bool := h.name.toList == g.name.toList
theorem ev_CG1 (g h : Ga) : Ev Try.prog 39 [gD h, .ref (gD g).cells 0] (.bool (sameN g h)) := by
  refine ev_of_awp tysOk mixed (fn := Try.f39) Try.func39 rfl rfl rfl ?_
  conv => whnf
  repeat' (first
    | ((with_reducible refine Split.of_true ?_); conv => whnf)
    | ((with_reducible refine Split.of_false ?_); conv => whnf)
    | ((with_reducible refine Split.neg ?_))
    | ((with_reducible refine Split.is_true ?_ ?_); decide; conv => whnf)
    | ((with_reducible refine Split.is_false ?_ ?_); decide; conv => whnf)
    | ((with_reducible refine Split.nez (fun _ => ?_) (fun _ => ?_)) <;> conv => whnf)
    | ((with_reducible refine Split.eqz (fun _ => ?_) (fun _ => ?_)) <;> conv => whnf)
    | ((with_reducible refine Split.and ?_))
    | ((with_reducible refine Split.or ?_))
    | ((with_reducible refine Split.streq (fun _ => ?_) (fun _ => ?_)) <;> conv => whnf)
    | ((with_reducible refine Split.dec (fun _ => ?_) (fun _ => ?_)) <;> conv => whnf)
    | ((with_reducible refine Split.mk (fun _ => ?_) (fun _ => ?_)) <;> conv => whnf)
    | ((with_reducible refine NilK.mk (fun _ => ?_) ?_) <;> conv => whnf)
    | ((with_reducible refine AltK.l ?_); (conv => whnf); (with_reducible refine Need.mk ?_ ?_); (first | omega | (refine ⟨?_, ?_⟩ <;> simp <;> omega) | (simp; omega)); conv => whnf)
    | ((with_reducible refine Need.mk ?_ ?_); (first | omega | rfl | decide | (refine ⟨?_, ?_⟩ <;> simp <;> omega) | (simp; omega)); conv => whnf)
    | ((with_reducible refine Wr.quo ?_ ?_ ?_ ?_); omega; omega; omega; conv => whnf)
    | ((with_reducible refine Wr.inr ?_ ?_); (first | omega | (simp; omega)); conv => whnf)
    | ((with_reducible refine Wr.inu ?_ ?_); omega; conv => whnf)
    | (exfalso; first | omega | contradiction))
  rfl
def gsGo : List Ga → List Ga → Int
  | _, [] => 0
  | o, g :: r => if nameB g.name = false then 4 else if o.any (sameN g) = true then 5 else if recErr g ≠ 0 then recErr g else match o.getLast? with
    | some z => if g.x ≤ z.x then 9 else gsGo (o ++ [g]) r
    | none => gsGo (o ++ [g]) r
def gsErr (l : List Ga) : Int := if 6 < l.length then 8 else gsGo [] l
open Classical in
theorem gsGo_at {l : List Ga} {i : Nat} {g : Ga} (hg : l[i]? = some g) : gsGo (l.take i) (l.drop i) = if nameB g.name = false then 4 else if (l.take i).any (sameN g) = true then 5 else if recErr g ≠ 0 then recErr g else
    if ∃ z, (i ≠ 0 ∧ l[i - 1]? = some z) ∧ g.x ≤ z.x then 9 else gsGo (l.take (i + 1)) (l.drop (i + 1)) := by
  rw [drop_of hg, gsGo, take_snoc hg]
  have hi := lt_of_some hg
  cases i with
  | zero => simp
  | succ j =>
    obtain ⟨z, hz⟩ := some_of_lt (l := l) (i := j) (by omega)
    have : (l.take (j + 1)).getLast? = some z := by rw [take_snoc hz]; simp
    rw [this]
    simp only [Nat.add_sub_cancel, hz]
    by_cases h : g.x ≤ z.x
    · simp [h]
    · simp [h]
theorem ev_CheckGauges (l : List Ga) : Ev Try.prog 17 [.sl 4 (l.map gD)] (.int .i64 (gsErr l)) := by
  have hlen : (l.map gD).length = l.length := List.length_map _
  refine ev_of_awp tysOk mixed (fn := Try.f17) Try.func17 rfl rfl rfl ?_
  conv => whnf
  repeat' (first
    | ((with_reducible refine Split.of_true ?_); conv => whnf)
    | ((with_reducible refine Split.of_false ?_); conv => whnf)
    | ((with_reducible refine Split.neg ?_))
    | ((with_reducible refine Split.is_true ?_ ?_); decide; conv => whnf)
    | ((with_reducible refine Split.is_false ?_ ?_); decide; conv => whnf)
    | ((with_reducible refine Split.nez (fun _ => ?_) (fun _ => ?_)) <;> conv => whnf)
    | ((with_reducible refine Split.eqz (fun _ => ?_) (fun _ => ?_)) <;> conv => whnf)
    | ((with_reducible refine Split.and ?_))
    | ((with_reducible refine Split.or ?_))
    | ((with_reducible refine Split.streq (fun _ => ?_) (fun _ => ?_)) <;> conv => whnf)
    | ((with_reducible refine Split.dec (fun _ => ?_) (fun _ => ?_)) <;> conv => whnf)
    | ((with_reducible refine Split.mk (fun _ => ?_) (fun _ => ?_)) <;> conv => whnf)
    | ((with_reducible refine NilK.mk (fun _ => ?_) ?_) <;> conv => whnf)
    | ((with_reducible refine AltK.l ?_); (conv => whnf); (with_reducible refine Need.mk ?_ ?_); (first | omega | (refine ⟨?_, ?_⟩ <;> simp <;> omega) | (simp; omega)); conv => whnf)
    | ((with_reducible refine Need.mk ?_ ?_); (first | omega | rfl | decide | (refine ⟨?_, ?_⟩ <;> simp <;> omega) | (simp; omega)); conv => whnf)
    | ((with_reducible refine Wr.quo ?_ ?_ ?_ ?_); omega; omega; omega; conv => whnf)
    | ((with_reducible refine Wr.inr ?_ ?_); (first | omega | (simp; omega)); conv => whnf)
    | ((with_reducible refine Wr.inu ?_ ?_); omega; conv => whnf)
    | (exfalso; first | omega | contradiction))
  · rw [gsErr, if_pos (by omega)]; rfl
  have e0 : gsErr l = gsGo [] l := by rw [gsErr, if_neg (by omega)]
  rw [e0]
  refine LoopK.o2 (fun i : Nat => i ≤ l.length ∧ gsGo [] l = gsGo (l.take i) (l.drop i)) (fun i => [(11, .d (.int .i64 i))]) (fun _ => []) (fun i => l.length - i) 0 (by simp) (by refine ⟨?_, ?_, rfl⟩ <;> (repeat' (first | exact True.intro | exact rfl | refine ⟨?_, ?_⟩ | (intro h; cases h; done) | (intro h; exact h) | exact map_snoc | (refine own_congr ?_; simp; done) | (refine int_congr ?_; (first | omega | (simp; omega))) | (simp; done)))) ?_
  rintro i ⟨hi, hp⟩
  have hn : (i : Int) < l.length → ∃ m, l[i]? = some m := fun h => some_of_lt (by omega)
  conv => whnf
  repeat' (first
    | ((with_reducible refine Split.of_true ?_); conv => whnf)
    | ((with_reducible refine Split.of_false ?_); conv => whnf)
    | ((with_reducible refine Split.neg ?_))
    | ((with_reducible refine Split.is_true ?_ ?_); decide; conv => whnf)
    | ((with_reducible refine Split.is_false ?_ ?_); decide; conv => whnf)
    | ((with_reducible refine Split.nez (fun _ => ?_) (fun _ => ?_)) <;> conv => whnf)
    | ((with_reducible refine Split.eqz (fun _ => ?_) (fun _ => ?_)) <;> conv => whnf)
    | ((with_reducible refine Split.and ?_))
    | ((with_reducible refine Split.or ?_))
    | ((with_reducible refine Split.streq (fun _ => ?_) (fun _ => ?_)) <;> conv => whnf)
    | ((with_reducible refine Split.dec (fun _ => ?_) (fun _ => ?_)) <;> conv => whnf)
    | ((with_reducible refine Split.mk (fun _ => ?_) (fun _ => ?_)) <;> conv => whnf)
    | ((with_reducible refine NilK.mk (fun _ => ?_) ?_) <;> conv => whnf)
    | ((with_reducible refine AltK.l ?_); (conv => whnf); (with_reducible refine Need.mk ?_ ?_); (first | omega | (refine ⟨?_, ?_⟩ <;> simp <;> omega) | (simp; omega)); conv => whnf)
    | ((with_reducible refine Need.mk ?_ ?_); (first | omega | rfl | decide | (refine ⟨?_, ?_⟩ <;> simp <;> omega) | (simp; omega)); conv => whnf)
    | ((with_reducible refine Wr.quo ?_ ?_ ?_ ?_); omega; omega; omega; conv => whnf)
    | ((with_reducible refine Wr.inr ?_ ?_); (first | omega | (simp; omega)); conv => whnf)
    | ((with_reducible refine Wr.inu ?_ ?_); omega; conv => whnf)
    | (exfalso; first | omega | contradiction))
  · obtain ⟨g, hg⟩ := hn (by omega)
    have hk := hp.trans (gsGo_at hg)
    have hc := ev_ContG (l.take i) 39 [.ref (gD g).cells 0] (sameN g) (by rw [List.length_take]; omega) (fun h _ => ev_CG1 g h)
    rw [List.map_take] at hc
    have hn1 := ev_named g.name
    have hr := ev_record g
    generalize (l.take i).any (sameN g) = b1 at *
    generalize nameB g.name = b2 at *
    cases b2 with
    | false =>
      conv => whnf
      repeat' (first
        | ((refine PickE.map i hg (by omega) ?_); conv => whnf)
        | ((with_reducible refine Split.of_true ?_); conv => whnf)
        | ((with_reducible refine Split.of_false ?_); conv => whnf)
        | ((with_reducible refine Split.neg ?_))
        | ((with_reducible refine Split.is_true ?_ ?_); decide; conv => whnf)
        | ((with_reducible refine Split.is_false ?_ ?_); decide; conv => whnf)
        | ((with_reducible refine Split.nez (fun _ => ?_) (fun _ => ?_)) <;> conv => whnf)
        | ((with_reducible refine Split.eqz (fun _ => ?_) (fun _ => ?_)) <;> conv => whnf)
        | ((with_reducible refine Split.and ?_))
        | ((with_reducible refine Split.or ?_))
        | ((with_reducible refine Split.streq (fun _ => ?_) (fun _ => ?_)) <;> conv => whnf)
        | ((with_reducible refine Split.dec (fun _ => ?_) (fun _ => ?_)) <;> conv => whnf)
        | ((with_reducible refine Split.mk (fun _ => ?_) (fun _ => ?_)) <;> conv => whnf)
        | ((with_reducible refine NilK.mk (fun _ => ?_) ?_) <;> conv => whnf)
        | ((with_reducible refine AltK.l ?_); (conv => whnf); (with_reducible refine Need.mk ?_ ?_); (first | omega | (refine ⟨?_, ?_⟩ <;> simp <;> omega) | (simp; omega)); conv => whnf)
        | ((with_reducible refine Need.mk ?_ ?_); (first | omega | rfl | decide | (refine ⟨?_, ?_⟩ <;> simp <;> omega) | (simp; omega)); conv => whnf)
        | ((with_reducible refine Wr.quo ?_ ?_ ?_ ?_); omega; omega; omega; conv => whnf)
        | ((with_reducible refine Wr.inr ?_ ?_); (first | omega | (simp; omega)); conv => whnf)
        | ((with_reducible refine Wr.inu ?_ ?_); omega; conv => whnf)
        | ((with_reducible refine AltK.l ?_); (conv => whnf); (first | (refine CallK.mk _ (hn1) ?_)); conv => whnf)
        | (exfalso; first | omega | contradiction))
      rw [hk, if_pos rfl]; rfl
    | true =>
      rw [if_neg (by decide)] at hk
      cases b1 with
      | true =>
        conv => whnf
        repeat' (first
          | ((refine PickE.map i hg (by omega) ?_); conv => whnf)
          | ((with_reducible refine Split.of_true ?_); conv => whnf)
          | ((with_reducible refine Split.of_false ?_); conv => whnf)
          | ((with_reducible refine Split.neg ?_))
          | ((with_reducible refine Split.is_true ?_ ?_); decide; conv => whnf)
          | ((with_reducible refine Split.is_false ?_ ?_); decide; conv => whnf)
          | ((with_reducible refine Split.nez (fun _ => ?_) (fun _ => ?_)) <;> conv => whnf)
          | ((with_reducible refine Split.eqz (fun _ => ?_) (fun _ => ?_)) <;> conv => whnf)
          | ((with_reducible refine Split.and ?_))
          | ((with_reducible refine Split.or ?_))
          | ((with_reducible refine Split.streq (fun _ => ?_) (fun _ => ?_)) <;> conv => whnf)
          | ((with_reducible refine Split.dec (fun _ => ?_) (fun _ => ?_)) <;> conv => whnf)
          | ((with_reducible refine Split.mk (fun _ => ?_) (fun _ => ?_)) <;> conv => whnf)
          | ((with_reducible refine NilK.mk (fun _ => ?_) ?_) <;> conv => whnf)
          | ((with_reducible refine AltK.l ?_); (conv => whnf); (with_reducible refine Need.mk ?_ ?_); (first | omega | (refine ⟨?_, ?_⟩ <;> simp <;> omega) | (simp; omega)); conv => whnf)
          | ((with_reducible refine Need.mk ?_ ?_); (first | omega | rfl | decide | (refine ⟨?_, ?_⟩ <;> simp <;> omega) | (simp; omega)); conv => whnf)
          | ((with_reducible refine Wr.quo ?_ ?_ ?_ ?_); omega; omega; omega; conv => whnf)
          | ((with_reducible refine Wr.inr ?_ ?_); (first | omega | (simp; omega)); conv => whnf)
          | ((with_reducible refine Wr.inu ?_ ?_); omega; conv => whnf)
          | ((with_reducible refine AltK.l ?_); (conv => whnf); (first | (refine CallK.mk _ (hn1) ?_) | (refine CallK.mk _ (hc) ?_)); conv => whnf)
          | (exfalso; first | omega | contradiction))
        rw [hk, if_pos rfl]; rfl
      | false =>
        rw [if_neg (by decide)] at hk
        by_cases hr0 : recErr g = 0
        · rw [if_neg (by simpa using hr0)] at hk
          rw [hr0] at hr
          by_cases hi0 : i = 0
          · subst hi0
            rw [if_neg (by simp)] at hk
            conv => whnf
            repeat' (first
              | ((refine PickE.map 0 hg (by omega) ?_); conv => whnf)
              | ((with_reducible refine Split.of_true ?_); conv => whnf)
              | ((with_reducible refine Split.of_false ?_); conv => whnf)
              | ((with_reducible refine Split.neg ?_))
              | ((with_reducible refine Split.is_true ?_ ?_); decide; conv => whnf)
              | ((with_reducible refine Split.is_false ?_ ?_); decide; conv => whnf)
              | ((with_reducible refine Split.nez (fun _ => ?_) (fun _ => ?_)) <;> conv => whnf)
              | ((with_reducible refine Split.eqz (fun _ => ?_) (fun _ => ?_)) <;> conv => whnf)
              | ((with_reducible refine Split.and ?_))
              | ((with_reducible refine Split.or ?_))
              | ((with_reducible refine Split.streq (fun _ => ?_) (fun _ => ?_)) <;> conv => whnf)
              | ((with_reducible refine Split.dec (fun _ => ?_) (fun _ => ?_)) <;> conv => whnf)
              | ((with_reducible refine Split.mk (fun _ => ?_) (fun _ => ?_)) <;> conv => whnf)
              | ((with_reducible refine NilK.mk (fun _ => ?_) ?_) <;> conv => whnf)
              | ((with_reducible refine AltK.l ?_); (conv => whnf); (with_reducible refine Need.mk ?_ ?_); (first | omega | (refine ⟨?_, ?_⟩ <;> simp <;> omega) | (simp; omega)); conv => whnf)
              | ((with_reducible refine Need.mk ?_ ?_); (first | omega | rfl | decide | (refine ⟨?_, ?_⟩ <;> simp <;> omega) | (simp; omega)); conv => whnf)
              | ((with_reducible refine Wr.quo ?_ ?_ ?_ ?_); omega; omega; omega; conv => whnf)
              | ((with_reducible refine Wr.inr ?_ ?_); (first | omega | (simp; omega)); conv => whnf)
              | ((with_reducible refine Wr.inu ?_ ?_); omega; conv => whnf)
              | ((with_reducible refine AltK.l ?_); (conv => whnf); (first | (refine CallK.mk _ (hn1) ?_) | (refine CallK.mk _ (hc) ?_) | (refine CallK.mk _ (hr) ?_)); conv => whnf)
              | (exfalso; first | omega | contradiction))
            exact Again.au (0 + 1) ⟨by omega, hk⟩ (by omega) (by refine ⟨?_, ?_, rfl⟩ <;> (repeat' (first | exact True.intro | exact rfl | refine ⟨?_, ?_⟩ | (intro h; cases h; done) | (intro h; exact h) | exact map_snoc | (refine own_congr ?_; simp; done) | (refine int_congr ?_; (first | omega | (simp; omega))) | (simp; done))))
          · obtain ⟨z, hz⟩ := some_of_lt (l := l) (i := i - 1) (by omega)
            have ex : (∃ z, (i ≠ 0 ∧ l[i - 1]? = some z) ∧ g.x ≤ z.x) ↔ g.x ≤ z.x := ⟨fun ⟨z', ⟨_, h2⟩, h3⟩ => by rw [hz] at h2; cases h2; exact h3, fun h => ⟨z, ⟨hi0, hz⟩, h⟩⟩
            simp only [ex] at hk
            conv => whnf
            repeat' (first
              | ((refine PickE.map (i - 1) hz (by omega) ?_); conv => whnf)
              | ((refine PickE.map i hg (by omega) ?_); conv => whnf)
              | ((with_reducible refine Split.of_true ?_); conv => whnf)
              | ((with_reducible refine Split.of_false ?_); conv => whnf)
              | ((with_reducible refine Split.neg ?_))
              | ((with_reducible refine Split.is_true ?_ ?_); decide; conv => whnf)
              | ((with_reducible refine Split.is_false ?_ ?_); decide; conv => whnf)
              | ((with_reducible refine Split.nez (fun _ => ?_) (fun _ => ?_)) <;> conv => whnf)
              | ((with_reducible refine Split.eqz (fun _ => ?_) (fun _ => ?_)) <;> conv => whnf)
              | ((with_reducible refine Split.and ?_))
              | ((with_reducible refine Split.or ?_))
              | ((with_reducible refine Split.streq (fun _ => ?_) (fun _ => ?_)) <;> conv => whnf)
              | ((with_reducible refine Split.dec (fun _ => ?_) (fun _ => ?_)) <;> conv => whnf)
              | ((with_reducible refine Split.mk (fun _ => ?_) (fun _ => ?_)) <;> conv => whnf)
              | ((with_reducible refine NilK.mk (fun _ => ?_) ?_) <;> conv => whnf)
              | ((with_reducible refine AltK.l ?_); (conv => whnf); (with_reducible refine Need.mk ?_ ?_); (first | omega | (refine ⟨?_, ?_⟩ <;> simp <;> omega) | (simp; omega)); conv => whnf)
              | ((with_reducible refine Need.mk ?_ ?_); (first | omega | rfl | decide | (refine ⟨?_, ?_⟩ <;> simp <;> omega) | (simp; omega)); conv => whnf)
              | ((with_reducible refine Wr.quo ?_ ?_ ?_ ?_); omega; omega; omega; conv => whnf)
              | ((with_reducible refine Wr.inr ?_ ?_); (first | omega | (simp; omega)); conv => whnf)
              | ((with_reducible refine Wr.inu ?_ ?_); omega; conv => whnf)
              | ((with_reducible refine AltK.l ?_); (conv => whnf); (first | (refine CallK.mk _ (hn1) ?_) | (refine CallK.mk _ (hc) ?_) | (refine CallK.mk _ (hr) ?_)); conv => whnf)
              | (exfalso; first | omega | contradiction))
            · rw [hk, if_pos (by assumption)]; rfl
            · rw [if_neg (by assumption)] at hk
              exact Again.au (i + 1) ⟨by omega, hk⟩ (by omega) (by refine ⟨?_, ?_, rfl⟩ <;> (repeat' (first | exact True.intro | exact rfl | refine ⟨?_, ?_⟩ | (intro h; cases h; done) | (intro h; exact h) | exact map_snoc | (refine own_congr ?_; simp; done) | (refine int_congr ?_; (first | omega | (simp; omega))) | (simp; done))))
            · exfalso; clear hk; omega
        · rw [if_pos (by simpa using hr0)] at hk
          conv => whnf
          repeat' (first
            | ((refine PickE.map i hg (by omega) ?_); conv => whnf)
            | ((with_reducible refine Split.of_true ?_); conv => whnf)
            | ((with_reducible refine Split.of_false ?_); conv => whnf)
            | ((with_reducible refine Split.neg ?_))
            | ((with_reducible refine Split.is_true ?_ ?_); decide; conv => whnf)
            | ((with_reducible refine Split.is_false ?_ ?_); decide; conv => whnf)
            | ((with_reducible refine Split.nez (fun _ => ?_) (fun _ => ?_)) <;> conv => whnf)
            | ((with_reducible refine Split.eqz (fun _ => ?_) (fun _ => ?_)) <;> conv => whnf)
            | ((with_reducible refine Split.and ?_))
            | ((with_reducible refine Split.or ?_))
            | ((with_reducible refine Split.streq (fun _ => ?_) (fun _ => ?_)) <;> conv => whnf)
            | ((with_reducible refine Split.dec (fun _ => ?_) (fun _ => ?_)) <;> conv => whnf)
            | ((with_reducible refine Split.mk (fun _ => ?_) (fun _ => ?_)) <;> conv => whnf)
            | ((with_reducible refine NilK.mk (fun _ => ?_) ?_) <;> conv => whnf)
            | ((with_reducible refine AltK.l ?_); (conv => whnf); (with_reducible refine Need.mk ?_ ?_); (first | omega | (refine ⟨?_, ?_⟩ <;> simp <;> omega) | (simp; omega)); conv => whnf)
            | ((with_reducible refine Need.mk ?_ ?_); (first | omega | rfl | decide | (refine ⟨?_, ?_⟩ <;> simp <;> omega) | (simp; omega)); conv => whnf)
            | ((with_reducible refine Wr.quo ?_ ?_ ?_ ?_); omega; omega; omega; conv => whnf)
            | ((with_reducible refine Wr.inr ?_ ?_); (first | omega | (simp; omega)); conv => whnf)
            | ((with_reducible refine Wr.inu ?_ ?_); omega; conv => whnf)
            | ((with_reducible refine AltK.l ?_); (conv => whnf); (first | (refine CallK.mk _ (hn1) ?_) | (refine CallK.mk _ (hc) ?_) | (refine CallK.mk _ (hr) ?_)); conv => whnf)
            | (exfalso; first | omega | contradiction))
          rw [hk]; rfl
  · rw [hp, List.drop_eq_nil_of_le (by omega)]; rfl
theorem ev_CheckGaugesR (l : List Ga) : Ev Try.prog 11 [.sl 4 (l.map gD)] (.int .i64 (gsErr l)) := by
  have hlen : (l.map gD).length = l.length := List.length_map _
  refine ev_of_awp tysOk mixed (fn := Try.f11) Try.func11 rfl rfl rfl ?_
  conv => whnf
  repeat' (first
    | ((with_reducible refine Split.of_true ?_); conv => whnf)
    | ((with_reducible refine Split.of_false ?_); conv => whnf)
    | ((with_reducible refine Split.neg ?_))
    | ((with_reducible refine Split.is_true ?_ ?_); decide; conv => whnf)
    | ((with_reducible refine Split.is_false ?_ ?_); decide; conv => whnf)
    | ((with_reducible refine Split.nez (fun _ => ?_) (fun _ => ?_)) <;> conv => whnf)
    | ((with_reducible refine Split.eqz (fun _ => ?_) (fun _ => ?_)) <;> conv => whnf)
    | ((with_reducible refine Split.and ?_))
    | ((with_reducible refine Split.or ?_))
    | ((with_reducible refine Split.streq (fun _ => ?_) (fun _ => ?_)) <;> conv => whnf)
    | ((with_reducible refine Split.dec (fun _ => ?_) (fun _ => ?_)) <;> conv => whnf)
    | ((with_reducible refine Split.mk (fun _ => ?_) (fun _ => ?_)) <;> conv => whnf)
    | ((with_reducible refine NilK.mk (fun _ => ?_) ?_) <;> conv => whnf)
    | ((with_reducible refine AltK.l ?_); (conv => whnf); (with_reducible refine Need.mk ?_ ?_); (first | omega | (refine ⟨?_, ?_⟩ <;> simp <;> omega) | (simp; omega)); conv => whnf)
    | ((with_reducible refine Need.mk ?_ ?_); (first | omega | rfl | decide | (refine ⟨?_, ?_⟩ <;> simp <;> omega) | (simp; omega)); conv => whnf)
    | ((with_reducible refine Wr.quo ?_ ?_ ?_ ?_); omega; omega; omega; conv => whnf)
    | ((with_reducible refine Wr.inr ?_ ?_); (first | omega | (simp; omega)); conv => whnf)
    | ((with_reducible refine Wr.inu ?_ ?_); omega; conv => whnf)
    | (exfalso; first | omega | contradiction))
  · rw [gsErr, if_pos (by omega)]; rfl
  have e0 : gsErr l = gsGo [] l := by rw [gsErr, if_neg (by omega)]
  rw [e0]
  refine LoopK.o2 (fun i : Nat => i ≤ l.length ∧ gsGo [] l = gsGo (l.take i) (l.drop i)) (fun i => [(3, .d (.int .i64 i))]) (fun _ => []) (fun i => l.length - i) 0 (by simp) (by refine ⟨?_, ?_, rfl⟩ <;> (repeat' (first | exact True.intro | exact rfl | refine ⟨?_, ?_⟩ | (intro h; cases h; done) | (intro h; exact h) | exact map_snoc | (refine own_congr ?_; simp; done) | (refine int_congr ?_; (first | omega | (simp; omega))) | (simp; done)))) ?_
  rintro i ⟨hi, hp⟩
  have hn : (i : Int) < l.length → ∃ m, l[i]? = some m := fun h => some_of_lt (by omega)
  conv => whnf
  repeat' (first
    | ((with_reducible refine Split.of_true ?_); conv => whnf)
    | ((with_reducible refine Split.of_false ?_); conv => whnf)
    | ((with_reducible refine Split.neg ?_))
    | ((with_reducible refine Split.is_true ?_ ?_); decide; conv => whnf)
    | ((with_reducible refine Split.is_false ?_ ?_); decide; conv => whnf)
    | ((with_reducible refine Split.nez (fun _ => ?_) (fun _ => ?_)) <;> conv => whnf)
    | ((with_reducible refine Split.eqz (fun _ => ?_) (fun _ => ?_)) <;> conv => whnf)
    | ((with_reducible refine Split.and ?_))
    | ((with_reducible refine Split.or ?_))
    | ((with_reducible refine Split.streq (fun _ => ?_) (fun _ => ?_)) <;> conv => whnf)
    | ((with_reducible refine Split.dec (fun _ => ?_) (fun _ => ?_)) <;> conv => whnf)
    | ((with_reducible refine Split.mk (fun _ => ?_) (fun _ => ?_)) <;> conv => whnf)
    | ((with_reducible refine NilK.mk (fun _ => ?_) ?_) <;> conv => whnf)
    | ((with_reducible refine AltK.l ?_); (conv => whnf); (with_reducible refine Need.mk ?_ ?_); (first | omega | (refine ⟨?_, ?_⟩ <;> simp <;> omega) | (simp; omega)); conv => whnf)
    | ((with_reducible refine Need.mk ?_ ?_); (first | omega | rfl | decide | (refine ⟨?_, ?_⟩ <;> simp <;> omega) | (simp; omega)); conv => whnf)
    | ((with_reducible refine Wr.quo ?_ ?_ ?_ ?_); omega; omega; omega; conv => whnf)
    | ((with_reducible refine Wr.inr ?_ ?_); (first | omega | (simp; omega)); conv => whnf)
    | ((with_reducible refine Wr.inu ?_ ?_); omega; conv => whnf)
    | (exfalso; first | omega | contradiction))
  · obtain ⟨g, hg⟩ := hn (by omega)
    have hk := hp.trans (gsGo_at hg)
    have hn1 := ev_IsName g.name
    have hr := ev_Record g
    generalize nameB g.name = b2 at *
    cases b2 with
    | false =>
      conv => whnf
      repeat' (first
        | ((refine PickE.map i hg (by omega) ?_); conv => whnf)
        | ((with_reducible refine Split.of_true ?_); conv => whnf)
        | ((with_reducible refine Split.of_false ?_); conv => whnf)
        | ((with_reducible refine Split.neg ?_))
        | ((with_reducible refine Split.is_true ?_ ?_); decide; conv => whnf)
        | ((with_reducible refine Split.is_false ?_ ?_); decide; conv => whnf)
        | ((with_reducible refine Split.nez (fun _ => ?_) (fun _ => ?_)) <;> conv => whnf)
        | ((with_reducible refine Split.eqz (fun _ => ?_) (fun _ => ?_)) <;> conv => whnf)
        | ((with_reducible refine Split.and ?_))
        | ((with_reducible refine Split.or ?_))
        | ((with_reducible refine Split.streq (fun _ => ?_) (fun _ => ?_)) <;> conv => whnf)
        | ((with_reducible refine Split.dec (fun _ => ?_) (fun _ => ?_)) <;> conv => whnf)
        | ((with_reducible refine Split.mk (fun _ => ?_) (fun _ => ?_)) <;> conv => whnf)
        | ((with_reducible refine NilK.mk (fun _ => ?_) ?_) <;> conv => whnf)
        | ((with_reducible refine AltK.l ?_); (conv => whnf); (with_reducible refine Need.mk ?_ ?_); (first | omega | (refine ⟨?_, ?_⟩ <;> simp <;> omega) | (simp; omega)); conv => whnf)
        | ((with_reducible refine Need.mk ?_ ?_); (first | omega | rfl | decide | (refine ⟨?_, ?_⟩ <;> simp <;> omega) | (simp; omega)); conv => whnf)
        | ((with_reducible refine Wr.quo ?_ ?_ ?_ ?_); omega; omega; omega; conv => whnf)
        | ((with_reducible refine Wr.inr ?_ ?_); (first | omega | (simp; omega)); conv => whnf)
        | ((with_reducible refine Wr.inu ?_ ?_); omega; conv => whnf)
        | ((with_reducible refine AltK.l ?_); (conv => whnf); (first | (refine CallK.mk _ (hn1) ?_)); conv => whnf)
        | (exfalso; first | omega | contradiction))
      rw [hk, if_pos rfl]; rfl
    | true =>
      rw [if_neg (by decide)] at hk
      conv => whnf
      repeat' (first
        | ((refine PickE.map i hg (by omega) ?_); conv => whnf)
        | ((with_reducible refine Split.of_true ?_); conv => whnf)
        | ((with_reducible refine Split.of_false ?_); conv => whnf)
        | ((with_reducible refine Split.neg ?_))
        | ((with_reducible refine Split.is_true ?_ ?_); decide; conv => whnf)
        | ((with_reducible refine Split.is_false ?_ ?_); decide; conv => whnf)
        | ((with_reducible refine Split.nez (fun _ => ?_) (fun _ => ?_)) <;> conv => whnf)
        | ((with_reducible refine Split.eqz (fun _ => ?_) (fun _ => ?_)) <;> conv => whnf)
        | ((with_reducible refine Split.and ?_))
        | ((with_reducible refine Split.or ?_))
        | ((with_reducible refine Split.streq (fun _ => ?_) (fun _ => ?_)) <;> conv => whnf)
        | ((with_reducible refine Split.dec (fun _ => ?_) (fun _ => ?_)) <;> conv => whnf)
        | ((with_reducible refine Split.mk (fun _ => ?_) (fun _ => ?_)) <;> conv => whnf)
        | ((with_reducible refine NilK.mk (fun _ => ?_) ?_) <;> conv => whnf)
        | ((with_reducible refine AltK.l ?_); (conv => whnf); (with_reducible refine Need.mk ?_ ?_); (first | omega | (refine ⟨?_, ?_⟩ <;> simp <;> omega) | (simp; omega)); conv => whnf)
        | ((with_reducible refine Need.mk ?_ ?_); (first | omega | rfl | decide | (refine ⟨?_, ?_⟩ <;> simp <;> omega) | (simp; omega)); conv => whnf)
        | ((with_reducible refine Wr.quo ?_ ?_ ?_ ?_); omega; omega; omega; conv => whnf)
        | ((with_reducible refine Wr.inr ?_ ?_); (first | omega | (simp; omega)); conv => whnf)
        | ((with_reducible refine Wr.inu ?_ ?_); omega; conv => whnf)
        | ((with_reducible refine AltK.l ?_); (conv => whnf); (first | (refine CallK.mk _ (hn1) ?_)); conv => whnf)
        | (exfalso; first | omega | contradiction))
      refine LoopK.o2 (fun k : Nat => k ≤ i ∧ ∀ h ∈ l.take k, sameN g h = false) (fun k => [(4, .d (.int .i64 k))]) (fun _ => []) (fun k => i - k) 0 (by simp) (by refine ⟨?_, ?_, rfl⟩ <;> (repeat' (first | exact True.intro | exact rfl | refine ⟨?_, ?_⟩ | (intro h; cases h; done) | (intro h; exact h) | exact map_snoc | (refine own_congr ?_; simp; done) | (refine int_congr ?_; (first | omega | (simp; omega))) | (simp; done)))) ?_
      rintro k ⟨hki, hks⟩
      have hnk : (k : Int) < i → ∃ m, l[k]? = some m := fun h => some_of_lt (by omega)
      conv => whnf
      repeat' (first
        | ((with_reducible refine Split.of_true ?_); conv => whnf)
        | ((with_reducible refine Split.of_false ?_); conv => whnf)
        | ((with_reducible refine Split.neg ?_))
        | ((with_reducible refine Split.is_true ?_ ?_); decide; conv => whnf)
        | ((with_reducible refine Split.is_false ?_ ?_); decide; conv => whnf)
        | ((with_reducible refine Split.nez (fun _ => ?_) (fun _ => ?_)) <;> conv => whnf)
        | ((with_reducible refine Split.eqz (fun _ => ?_) (fun _ => ?_)) <;> conv => whnf)
        | ((with_reducible refine Split.and ?_))
        | ((with_reducible refine Split.or ?_))
        | ((with_reducible refine Split.streq (fun _ => ?_) (fun _ => ?_)) <;> conv => whnf)
        | ((with_reducible refine Split.dec (fun _ => ?_) (fun _ => ?_)) <;> conv => whnf)
        | ((with_reducible refine Split.mk (fun _ => ?_) (fun _ => ?_)) <;> conv => whnf)
        | ((with_reducible refine NilK.mk (fun _ => ?_) ?_) <;> conv => whnf)
        | ((with_reducible refine AltK.l ?_); (conv => whnf); (with_reducible refine Need.mk ?_ ?_); (first | omega | (refine ⟨?_, ?_⟩ <;> simp <;> omega) | (simp; omega)); conv => whnf)
        | ((with_reducible refine Need.mk ?_ ?_); (first | omega | rfl | decide | (refine ⟨?_, ?_⟩ <;> simp <;> omega) | (simp; omega)); conv => whnf)
        | ((with_reducible refine Wr.quo ?_ ?_ ?_ ?_); omega; omega; omega; conv => whnf)
        | ((with_reducible refine Wr.inr ?_ ?_); (first | omega | (simp; omega)); conv => whnf)
        | ((with_reducible refine Wr.inu ?_ ?_); omega; conv => whnf)
        | (exfalso; first | omega | contradiction))
      · obtain ⟨h, hh⟩ := hnk (by omega)
        conv => whnf
        repeat' (first
          | ((refine PickE.map i hg (by omega) ?_); conv => whnf)
          | ((refine PickE.map k hh (by omega) ?_); conv => whnf)
          | ((with_reducible refine Split.of_true ?_); conv => whnf)
          | ((with_reducible refine Split.of_false ?_); conv => whnf)
          | ((with_reducible refine Split.neg ?_))
          | ((with_reducible refine Split.is_true ?_ ?_); decide; conv => whnf)
          | ((with_reducible refine Split.is_false ?_ ?_); decide; conv => whnf)
          | ((with_reducible refine Split.nez (fun _ => ?_) (fun _ => ?_)) <;> conv => whnf)
          | ((with_reducible refine Split.eqz (fun _ => ?_) (fun _ => ?_)) <;> conv => whnf)
          | ((with_reducible refine Split.and ?_))
          | ((with_reducible refine Split.or ?_))
          | ((with_reducible refine Split.streq (fun _ => ?_) (fun _ => ?_)) <;> conv => whnf)
          | ((with_reducible refine Split.dec (fun _ => ?_) (fun _ => ?_)) <;> conv => whnf)
          | ((with_reducible refine Split.mk (fun _ => ?_) (fun _ => ?_)) <;> conv => whnf)
          | ((with_reducible refine NilK.mk (fun _ => ?_) ?_) <;> conv => whnf)
          | ((with_reducible refine AltK.l ?_); (conv => whnf); (with_reducible refine Need.mk ?_ ?_); (first | omega | (refine ⟨?_, ?_⟩ <;> simp <;> omega) | (simp; omega)); conv => whnf)
          | ((with_reducible refine Need.mk ?_ ?_); (first | omega | rfl | decide | (refine ⟨?_, ?_⟩ <;> simp <;> omega) | (simp; omega)); conv => whnf)
          | ((with_reducible refine Wr.quo ?_ ?_ ?_ ?_); omega; omega; omega; conv => whnf)
          | ((with_reducible refine Wr.inr ?_ ?_); (first | omega | (simp; omega)); conv => whnf)
          | ((with_reducible refine Wr.inu ?_ ?_); omega; conv => whnf)
          | (exfalso; first | omega | contradiction))
        · have he : h.name = g.name := by assumption
          rw [hk, if_pos (List.any_eq_true.2 ⟨h, List.mem_of_getElem? (i := k) (by rw [List.getElem?_take_of_lt (by omega)]; exact hh), by simp [sameN, he]⟩)]
          rfl
        · have he : h.name ≠ g.name := by assumption
          refine Again.au (k + 1) ⟨by omega, fun x hx => ?_⟩ (by omega) (by refine ⟨?_, ?_, rfl⟩ <;> (repeat' (first | exact True.intro | exact rfl | refine ⟨?_, ?_⟩ | (intro h; cases h; done) | (intro h; exact h) | exact map_snoc | (refine own_congr ?_; simp; done) | (refine int_congr ?_; (first | omega | (simp; omega))) | (simp; done))))
          rw [take_snoc hh] at hx
          rcases List.mem_append.1 hx with hx | hx
          · exact hks x hx
          · rw [List.mem_singleton.1 hx]
            rw [sameN, Bool.eq_false_iff]
            intro hb
            exact he (toList_inj (by simpa using hb))
      · obtain rfl : k = i := by omega
        have hb1 : (l.take k).any (sameN g) = false := by
          rw [List.any_eq_false]; intro x hx; rw [hks x hx]; decide
        rw [hb1, if_neg (by decide)] at hk
        by_cases hr0 : recErr g = 0
        · rw [if_neg (by simpa using hr0)] at hk
          rw [hr0] at hr
          by_cases hi0 : k = 0
          · subst hi0
            rw [if_neg (by simp)] at hk
            conv => whnf
            repeat' (first
              | ((refine PickE.map 0 hg (by omega) ?_); conv => whnf)
              | ((with_reducible refine Split.of_true ?_); conv => whnf)
              | ((with_reducible refine Split.of_false ?_); conv => whnf)
              | ((with_reducible refine Split.neg ?_))
              | ((with_reducible refine Split.is_true ?_ ?_); decide; conv => whnf)
              | ((with_reducible refine Split.is_false ?_ ?_); decide; conv => whnf)
              | ((with_reducible refine Split.nez (fun _ => ?_) (fun _ => ?_)) <;> conv => whnf)
              | ((with_reducible refine Split.eqz (fun _ => ?_) (fun _ => ?_)) <;> conv => whnf)
              | ((with_reducible refine Split.and ?_))
              | ((with_reducible refine Split.or ?_))
              | ((with_reducible refine Split.streq (fun _ => ?_) (fun _ => ?_)) <;> conv => whnf)
              | ((with_reducible refine Split.dec (fun _ => ?_) (fun _ => ?_)) <;> conv => whnf)
              | ((with_reducible refine Split.mk (fun _ => ?_) (fun _ => ?_)) <;> conv => whnf)
              | ((with_reducible refine NilK.mk (fun _ => ?_) ?_) <;> conv => whnf)
              | ((with_reducible refine AltK.l ?_); (conv => whnf); (with_reducible refine Need.mk ?_ ?_); (first | omega | (refine ⟨?_, ?_⟩ <;> simp <;> omega) | (simp; omega)); conv => whnf)
              | ((with_reducible refine Need.mk ?_ ?_); (first | omega | rfl | decide | (refine ⟨?_, ?_⟩ <;> simp <;> omega) | (simp; omega)); conv => whnf)
              | ((with_reducible refine Wr.quo ?_ ?_ ?_ ?_); omega; omega; omega; conv => whnf)
              | ((with_reducible refine Wr.inr ?_ ?_); (first | omega | (simp; omega)); conv => whnf)
              | ((with_reducible refine Wr.inu ?_ ?_); omega; conv => whnf)
              | ((with_reducible refine AltK.l ?_); (conv => whnf); (first | (refine CallK.mk _ (hr) ?_)); conv => whnf)
              | (exfalso; first | omega | contradiction))
            exact Again.au (0 + 1) ⟨by omega, hk⟩ (by omega) (by refine ⟨?_, ?_, rfl⟩ <;> (repeat' (first | exact True.intro | exact rfl | refine ⟨?_, ?_⟩ | (intro h; cases h; done) | (intro h; exact h) | exact map_snoc | (refine own_congr ?_; simp; done) | (refine int_congr ?_; (first | omega | (simp; omega))) | (simp; done))))
          · obtain ⟨z, hz⟩ := some_of_lt (l := l) (i := k - 1) (by omega)
            have ex : (∃ z, (k ≠ 0 ∧ l[k - 1]? = some z) ∧ g.x ≤ z.x) ↔ g.x ≤ z.x := ⟨fun ⟨z', ⟨_, h2⟩, h3⟩ => by rw [hz] at h2; cases h2; exact h3, fun h => ⟨z, ⟨hi0, hz⟩, h⟩⟩
            simp only [ex] at hk
            conv => whnf
            repeat' (first
              | ((refine PickE.map (k - 1) hz (by omega) ?_); conv => whnf)
              | ((refine PickE.map k hg (by omega) ?_); conv => whnf)
              | ((with_reducible refine Split.of_true ?_); conv => whnf)
              | ((with_reducible refine Split.of_false ?_); conv => whnf)
              | ((with_reducible refine Split.neg ?_))
              | ((with_reducible refine Split.is_true ?_ ?_); decide; conv => whnf)
              | ((with_reducible refine Split.is_false ?_ ?_); decide; conv => whnf)
              | ((with_reducible refine Split.nez (fun _ => ?_) (fun _ => ?_)) <;> conv => whnf)
              | ((with_reducible refine Split.eqz (fun _ => ?_) (fun _ => ?_)) <;> conv => whnf)
              | ((with_reducible refine Split.and ?_))
              | ((with_reducible refine Split.or ?_))
              | ((with_reducible refine Split.streq (fun _ => ?_) (fun _ => ?_)) <;> conv => whnf)
              | ((with_reducible refine Split.dec (fun _ => ?_) (fun _ => ?_)) <;> conv => whnf)
              | ((with_reducible refine Split.mk (fun _ => ?_) (fun _ => ?_)) <;> conv => whnf)
              | ((with_reducible refine NilK.mk (fun _ => ?_) ?_) <;> conv => whnf)
              | ((with_reducible refine AltK.l ?_); (conv => whnf); (with_reducible refine Need.mk ?_ ?_); (first | omega | (refine ⟨?_, ?_⟩ <;> simp <;> omega) | (simp; omega)); conv => whnf)
              | ((with_reducible refine Need.mk ?_ ?_); (first | omega | rfl | decide | (refine ⟨?_, ?_⟩ <;> simp <;> omega) | (simp; omega)); conv => whnf)
              | ((with_reducible refine Wr.quo ?_ ?_ ?_ ?_); omega; omega; omega; conv => whnf)
              | ((with_reducible refine Wr.inr ?_ ?_); (first | omega | (simp; omega)); conv => whnf)
              | ((with_reducible refine Wr.inu ?_ ?_); omega; conv => whnf)
              | ((with_reducible refine AltK.l ?_); (conv => whnf); (first | (refine CallK.mk _ (hr) ?_)); conv => whnf)
              | (exfalso; first | omega | contradiction))
            · rw [hk, if_pos (by assumption)]; rfl
            · rw [if_neg (by assumption)] at hk
              exact Again.au (k + 1) ⟨by omega, hk⟩ (by omega) (by refine ⟨?_, ?_, rfl⟩ <;> (repeat' (first | exact True.intro | exact rfl | refine ⟨?_, ?_⟩ | (intro h; cases h; done) | (intro h; exact h) | exact map_snoc | (refine own_congr ?_; simp; done) | (refine int_congr ?_; (first | omega | (simp; omega))) | (simp; done))))
            · exfalso; clear hk; omega
        · rw [if_pos (by simpa using hr0)] at hk
          conv => whnf
          repeat' (first
            | ((refine PickE.map k hg (by omega) ?_); conv => whnf)
            | ((with_reducible refine Split.of_true ?_); conv => whnf)
            | ((with_reducible refine Split.of_false ?_); conv => whnf)
            | ((with_reducible refine Split.neg ?_))
            | ((with_reducible refine Split.is_true ?_ ?_); decide; conv => whnf)
            | ((with_reducible refine Split.is_false ?_ ?_); decide; conv => whnf)
            | ((with_reducible refine Split.nez (fun _ => ?_) (fun _ => ?_)) <;> conv => whnf)
            | ((with_reducible refine Split.eqz (fun _ => ?_) (fun _ => ?_)) <;> conv => whnf)
            | ((with_reducible refine Split.and ?_))
            | ((with_reducible refine Split.or ?_))
            | ((with_reducible refine Split.streq (fun _ => ?_) (fun _ => ?_)) <;> conv => whnf)
            | ((with_reducible refine Split.dec (fun _ => ?_) (fun _ => ?_)) <;> conv => whnf)
            | ((with_reducible refine Split.mk (fun _ => ?_) (fun _ => ?_)) <;> conv => whnf)
            | ((with_reducible refine NilK.mk (fun _ => ?_) ?_) <;> conv => whnf)
            | ((with_reducible refine AltK.l ?_); (conv => whnf); (with_reducible refine Need.mk ?_ ?_); (first | omega | (refine ⟨?_, ?_⟩ <;> simp <;> omega) | (simp; omega)); conv => whnf)
            | ((with_reducible refine Need.mk ?_ ?_); (first | omega | rfl | decide | (refine ⟨?_, ?_⟩ <;> simp <;> omega) | (simp; omega)); conv => whnf)
            | ((with_reducible refine Wr.quo ?_ ?_ ?_ ?_); omega; omega; omega; conv => whnf)
            | ((with_reducible refine Wr.inr ?_ ?_); (first | omega | (simp; omega)); conv => whnf)
            | ((with_reducible refine Wr.inu ?_ ?_); omega; conv => whnf)
            | ((with_reducible refine AltK.l ?_); (conv => whnf); (first | (refine CallK.mk _ (hr) ?_)); conv => whnf)
            | (exfalso; first | omega | contradiction))
          rw [hk]; rfl
  · rw [hp, List.drop_eq_nil_of_le (by omega)]; rfl
structure GoodAll (l : List Ga) : Prop where
  len : l.length ≤ 6
  each : ∀ g ∈ l, gErr g = 0
  asc : l.Pairwise fun a b => a.x < b.x
theorem gsGo_zero : ∀ (r o : List Ga), gsGo o r = 0 → (∀ g ∈ r, gErr g = 0) ∧ r.Pairwise (fun a b => a.x < b.x) ∧ ∀ z, o.getLast? = some z → ∀ g ∈ r, z.x < g.x
  | [], o, _ => ⟨(fun g h => (by cases h)), .nil, (fun z _ g h => (by cases h))⟩
  | g :: r, o, h => by
    rw [gsGo] at h
    split at h
    · cases h
    · rename_i h1
      split at h
      · cases h
      · split at h
        · contradiction
        · rename_i h3
          have key : gsGo (o ++ [g]) r = 0 ∧ ∀ z, o.getLast? = some z → z.x < g.x := by
            split at h
            · rename_i z hz
              split at h
              · cases h
              · refine ⟨h, fun z' hz' => ?_⟩
                rw [hz] at hz'; cases hz'; omega
            · rename_i hz
              exact ⟨h, fun z hz' => by rw [hz] at hz'; cases hz'⟩
          obtain ⟨k1, k2, k3⟩ := gsGo_zero r (o ++ [g]) key.1
          have k3 := k3 g (by simp)
          refine ⟨fun x hx => ?_, List.pairwise_cons.2 ⟨k3, k2⟩, fun z hz x hx => ?_⟩
          · cases hx with
            | head => unfold gErr; rw [if_pos (by simpa using h1)]; simpa using h3
            | tail _ hx => exact k1 x hx
          · have := key.2 z hz
            cases hx with
            | head => exact this
            | tail _ hx => have := k3 x hx; omega
theorem goodAll {l : List Ga} (h : gsErr l = 0) : GoodAll l := by
  unfold gsErr at h
  split at h
  · cases h
  · obtain ⟨a, b, -⟩ := gsGo_zero l [] h
    exact ⟨by omega, a, b⟩
def posX (l : List Ga) (x : Int) : Nat := (l.takeWhile fun g => decide (g.x < x)).length
theorem posX_le (l : List Ga) (x : Int) : posX l x ≤ l.length := (List.takeWhile_prefix _).length_le
theorem posX_spec {x : Int} : ∀ {l : List Ga}, l.Pairwise (fun a b => a.x < b.x) → ∀ (k : Nat) m, l[k]? = some m → (k < posX l x → m.x < x) ∧ (posX l x ≤ k → x ≤ m.x)
  | [], _, k, m, h => by simp at h
  | a :: r, hp, k, m, h => by
    obtain ⟨h1, h2⟩ := List.pairwise_cons.1 hp
    by_cases ha : a.x < x
    · have e : posX (a :: r) x = posX r x + 1 := by simp [posX, ha]
      rw [e]
      cases k with
      | zero => simp only [List.getElem?_cons_zero, Option.some.injEq] at h; subst h; exact ⟨fun _ => ha, fun h => by omega⟩
      | succ k =>
        have := posX_spec (x := x) h2 k m (by simpa using h)
        exact ⟨fun h => this.1 (by omega), fun h => this.2 (by omega)⟩
    · have e : posX (a :: r) x = 0 := by simp [posX, ha]
      rw [e]
      refine ⟨fun h => by omega, fun _ => ?_⟩
      cases k with
      | zero => simp only [List.getElem?_cons_zero, Option.some.injEq] at h; subst h; omega
      | succ k =>
        have := h1 m (List.mem_of_getElem? (i := k) (by simpa using h))
        omega
theorem ev_lv1 (g : Ga) (x : Int) (h : -1000000 ≤ g.x ∧ g.x ≤ 1000000) (hx : -4000000000000000000 ≤ x ∧ x ≤ 4000000000000000000) : Ev Try.prog 56 [gD g, .int .i64 x] (.int .i64 (g.x - x)) := by
  refine ev_of_awp tysOk mixed (fn := Try.f56) Try.func56 rfl rfl rfl ?_
  conv => whnf
  repeat' (first
    | ((with_reducible refine Split.of_true ?_); conv => whnf)
    | ((with_reducible refine Split.of_false ?_); conv => whnf)
    | ((with_reducible refine Split.neg ?_))
    | ((with_reducible refine Split.is_true ?_ ?_); decide; conv => whnf)
    | ((with_reducible refine Split.is_false ?_ ?_); decide; conv => whnf)
    | ((with_reducible refine Split.nez (fun _ => ?_) (fun _ => ?_)) <;> conv => whnf)
    | ((with_reducible refine Split.eqz (fun _ => ?_) (fun _ => ?_)) <;> conv => whnf)
    | ((with_reducible refine Split.and ?_))
    | ((with_reducible refine Split.or ?_))
    | ((with_reducible refine Split.streq (fun _ => ?_) (fun _ => ?_)) <;> conv => whnf)
    | ((with_reducible refine Split.dec (fun _ => ?_) (fun _ => ?_)) <;> conv => whnf)
    | ((with_reducible refine Split.mk (fun _ => ?_) (fun _ => ?_)) <;> conv => whnf)
    | ((with_reducible refine NilK.mk (fun _ => ?_) ?_) <;> conv => whnf)
    | ((with_reducible refine AltK.l ?_); (conv => whnf); (with_reducible refine Need.mk ?_ ?_); (first | omega | (refine ⟨?_, ?_⟩ <;> simp <;> omega) | (simp; omega)); conv => whnf)
    | ((with_reducible refine Need.mk ?_ ?_); (first | omega | rfl | decide | (refine ⟨?_, ?_⟩ <;> simp <;> omega) | (simp; omega)); conv => whnf)
    | ((with_reducible refine Wr.quo ?_ ?_ ?_ ?_); omega; omega; omega; conv => whnf)
    | ((with_reducible refine Wr.inr ?_ ?_); (first | omega | (simp; omega)); conv => whnf)
    | ((with_reducible refine Wr.inu ?_ ?_); omega; conv => whnf)
    | (exfalso; first | omega | contradiction))
  rfl
def foundX (l : List Ga) (p : Nat) (t : Int) : Bool := match l[p]? with
  | some m => decide (m.x = t)
  | none => false
theorem ev_BinX (l : List Ga) (t : Int) (p : Nat) (hl : l.length ≤ 1000000) (hb : ∀ m ∈ l, -1000000 ≤ m.x ∧ m.x ≤ 1000000) (ht : -4000000000000000000 ≤ t ∧ t ≤ 4000000000000000000) (hp : p ≤ l.length)
    (h : ∀ (k : Nat) m, l[k]? = some m → (k < p → m.x < t) ∧ (p ≤ k → t ≤ m.x)) : Ev Try.prog 55 [.sl 4 (l.map gD), .int .i64 t, .fn 56 []] (.tup [.int .i64 p, .bool (foundX l p t)]) := by
  have hlen : (l.map gD).length = l.length := List.length_map _
  refine ev_of_awp tysOk mixed (fn := Try.f55) Try.func55 rfl rfl rfl ?_
  conv => whnf
  repeat' (first
    | ((with_reducible refine Split.of_true ?_); conv => whnf)
    | ((with_reducible refine Split.of_false ?_); conv => whnf)
    | ((with_reducible refine Split.neg ?_))
    | ((with_reducible refine Split.is_true ?_ ?_); decide; conv => whnf)
    | ((with_reducible refine Split.is_false ?_ ?_); decide; conv => whnf)
    | ((with_reducible refine Split.nez (fun _ => ?_) (fun _ => ?_)) <;> conv => whnf)
    | ((with_reducible refine Split.eqz (fun _ => ?_) (fun _ => ?_)) <;> conv => whnf)
    | ((with_reducible refine Split.and ?_))
    | ((with_reducible refine Split.or ?_))
    | ((with_reducible refine Split.streq (fun _ => ?_) (fun _ => ?_)) <;> conv => whnf)
    | ((with_reducible refine Split.dec (fun _ => ?_) (fun _ => ?_)) <;> conv => whnf)
    | ((with_reducible refine Split.mk (fun _ => ?_) (fun _ => ?_)) <;> conv => whnf)
    | ((with_reducible refine NilK.mk (fun _ => ?_) ?_) <;> conv => whnf)
    | ((with_reducible refine AltK.l ?_); (conv => whnf); (with_reducible refine Need.mk ?_ ?_); (first | omega | (refine ⟨?_, ?_⟩ <;> simp <;> omega) | (simp; omega)); conv => whnf)
    | ((with_reducible refine Need.mk ?_ ?_); (first | omega | rfl | decide | (refine ⟨?_, ?_⟩ <;> simp <;> omega) | (simp; omega)); conv => whnf)
    | ((with_reducible refine Wr.quo ?_ ?_ ?_ ?_); omega; omega; omega; conv => whnf)
    | ((with_reducible refine Wr.inr ?_ ?_); (first | omega | (simp; omega)); conv => whnf)
    | ((with_reducible refine Wr.inu ?_ ?_); omega; conv => whnf)
    | (exfalso; first | omega | contradiction))
  refine LoopK.o2 (fun ij : Nat × Nat => ij.1 ≤ p ∧ p ≤ ij.2 ∧ ij.2 ≤ l.length)
    (fun ij => [(9, .d (.int .i64 ij.1)), (10, .d (.int .i64 ij.2))]) (fun _ => [])
    (fun ij => ij.2 - ij.1) (0, (l.map gD).length) ⟨by omega, by omega, by omega⟩ (by refine ⟨?_, ?_, rfl⟩ <;> (repeat' (first | exact True.intro | exact rfl | refine ⟨?_, ?_⟩ | (intro h; cases h; done) | (intro h; exact h) | exact map_snoc | (refine own_congr ?_; simp; done) | (refine int_congr ?_; (first | omega | (simp; omega))) | (simp; done)))) ?_
  rintro ⟨i, j⟩ ⟨h1, h2, h3⟩
  dsimp only at h1 h2 h3 ⊢
  have hz : shrZ ((i : Int) + j) 1 = ((i + j) / 2 : Nat) := by rw [shrZ_one]; omega
  have hlt : (i : Int) < j → (i + j) / 2 < l.length := fun h => by omega
  conv => whnf
  repeat' (first
    | ((with_reducible refine Split.of_true ?_); conv => whnf)
    | ((with_reducible refine Split.of_false ?_); conv => whnf)
    | ((with_reducible refine Split.neg ?_))
    | ((with_reducible refine Split.is_true ?_ ?_); decide; conv => whnf)
    | ((with_reducible refine Split.is_false ?_ ?_); decide; conv => whnf)
    | ((with_reducible refine Split.nez (fun _ => ?_) (fun _ => ?_)) <;> conv => whnf)
    | ((with_reducible refine Split.eqz (fun _ => ?_) (fun _ => ?_)) <;> conv => whnf)
    | ((with_reducible refine Split.and ?_))
    | ((with_reducible refine Split.or ?_))
    | ((with_reducible refine Split.streq (fun _ => ?_) (fun _ => ?_)) <;> conv => whnf)
    | ((with_reducible refine Split.dec (fun _ => ?_) (fun _ => ?_)) <;> conv => whnf)
    | ((with_reducible refine Split.mk (fun _ => ?_) (fun _ => ?_)) <;> conv => whnf)
    | ((with_reducible refine NilK.mk (fun _ => ?_) ?_) <;> conv => whnf)
    | ((with_reducible refine AltK.l ?_); (conv => whnf); (with_reducible refine Need.mk ?_ ?_); (first | omega | (refine ⟨?_, ?_⟩ <;> simp <;> omega) | (simp; omega)); conv => whnf)
    | ((with_reducible refine Need.mk ?_ ?_); (first | omega | rfl | decide | (refine ⟨?_, ?_⟩ <;> simp <;> omega) | (simp; omega)); conv => whnf)
    | ((with_reducible refine Wr.quo ?_ ?_ ?_ ?_); omega; omega; omega; conv => whnf)
    | ((with_reducible refine Wr.inr ?_ ?_); (first | omega | (simp; omega)); conv => whnf)
    | ((with_reducible refine Wr.inu ?_ ?_); omega; conv => whnf)
    | (exfalso; first | omega | contradiction))
  · have hlt := hlt (by assumption)
    obtain ⟨m, hm⟩ := some_of_lt hlt
    have hmb := hb m (List.mem_of_getElem? hm)
    have hc := h _ m hm
    rw [hz]
    have hq : i ≤ (i + j) / 2 ∧ (i + j) / 2 < j := by omega
    generalize (i + j) / 2 = q at *
    refine PickE.map q hm (by omega) ?_
    conv => whnf
    repeat' (first
      | ((with_reducible refine Split.of_true ?_); conv => whnf)
      | ((with_reducible refine Split.of_false ?_); conv => whnf)
      | ((with_reducible refine Split.neg ?_))
      | ((with_reducible refine Split.is_true ?_ ?_); decide; conv => whnf)
      | ((with_reducible refine Split.is_false ?_ ?_); decide; conv => whnf)
      | ((with_reducible refine Split.nez (fun _ => ?_) (fun _ => ?_)) <;> conv => whnf)
      | ((with_reducible refine Split.eqz (fun _ => ?_) (fun _ => ?_)) <;> conv => whnf)
      | ((with_reducible refine Split.and ?_))
      | ((with_reducible refine Split.or ?_))
      | ((with_reducible refine Split.streq (fun _ => ?_) (fun _ => ?_)) <;> conv => whnf)
      | ((with_reducible refine Split.dec (fun _ => ?_) (fun _ => ?_)) <;> conv => whnf)
      | ((with_reducible refine Split.mk (fun _ => ?_) (fun _ => ?_)) <;> conv => whnf)
      | ((with_reducible refine NilK.mk (fun _ => ?_) ?_) <;> conv => whnf)
      | ((with_reducible refine AltK.l ?_); (conv => whnf); (with_reducible refine Need.mk ?_ ?_); (first | omega | (refine ⟨?_, ?_⟩ <;> simp <;> omega) | (simp; omega)); conv => whnf)
      | ((with_reducible refine Need.mk ?_ ?_); (first | omega | rfl | decide | (refine ⟨?_, ?_⟩ <;> simp <;> omega) | (simp; omega)); conv => whnf)
      | ((with_reducible refine Wr.quo ?_ ?_ ?_ ?_); omega; omega; omega; conv => whnf)
      | ((with_reducible refine Wr.inr ?_ ?_); (first | omega | (simp; omega)); conv => whnf)
      | ((with_reducible refine Wr.inu ?_ ?_); omega; conv => whnf)
      | ((with_reducible refine AltK.l ?_); (conv => whnf); (first | (refine CallK.mk _ (ev_lv1 m t hmb ht) ?_)); conv => whnf)
      | (exfalso; first | omega | contradiction))
    · exact Again.au (q + 1, j) ⟨by omega, by omega, by omega⟩ (by dsimp only; omega) (by refine ⟨?_, ?_, rfl⟩ <;> (repeat' (first | exact True.intro | exact rfl | refine ⟨?_, ?_⟩ | (intro h; cases h; done) | (intro h; exact h) | exact map_snoc | (refine own_congr ?_; simp; done) | (refine int_congr ?_; (first | omega | (simp; omega))) | (simp; done))))
    · exact Again.au (i, q) ⟨by omega, by omega, by omega⟩ (by dsimp only; omega) (by refine ⟨?_, ?_, rfl⟩ <;> (repeat' (first | exact True.intro | exact rfl | refine ⟨?_, ?_⟩ | (intro h; cases h; done) | (intro h; exact h) | exact map_snoc | (refine own_congr ?_; simp; done) | (refine int_congr ?_; (first | omega | (simp; omega))) | (simp; done))))
  · have e : i = p := by omega
    subst e
    obtain ⟨m, hm⟩ := some_of_lt (l := l) (i := i) (by omega)
    have hmb := hb m (List.mem_of_getElem? hm)
    refine PickE.map i hm (by omega) ?_
    conv => whnf
    repeat' (first
      | ((with_reducible refine Split.of_true ?_); conv => whnf)
      | ((with_reducible refine Split.of_false ?_); conv => whnf)
      | ((with_reducible refine Split.neg ?_))
      | ((with_reducible refine Split.is_true ?_ ?_); decide; conv => whnf)
      | ((with_reducible refine Split.is_false ?_ ?_); decide; conv => whnf)
      | ((with_reducible refine Split.nez (fun _ => ?_) (fun _ => ?_)) <;> conv => whnf)
      | ((with_reducible refine Split.eqz (fun _ => ?_) (fun _ => ?_)) <;> conv => whnf)
      | ((with_reducible refine Split.and ?_))
      | ((with_reducible refine Split.or ?_))
      | ((with_reducible refine Split.streq (fun _ => ?_) (fun _ => ?_)) <;> conv => whnf)
      | ((with_reducible refine Split.dec (fun _ => ?_) (fun _ => ?_)) <;> conv => whnf)
      | ((with_reducible refine Split.mk (fun _ => ?_) (fun _ => ?_)) <;> conv => whnf)
      | ((with_reducible refine NilK.mk (fun _ => ?_) ?_) <;> conv => whnf)
      | ((with_reducible refine AltK.l ?_); (conv => whnf); (with_reducible refine Need.mk ?_ ?_); (first | omega | (refine ⟨?_, ?_⟩ <;> simp <;> omega) | (simp; omega)); conv => whnf)
      | ((with_reducible refine Need.mk ?_ ?_); (first | omega | rfl | decide | (refine ⟨?_, ?_⟩ <;> simp <;> omega) | (simp; omega)); conv => whnf)
      | ((with_reducible refine Wr.quo ?_ ?_ ?_ ?_); omega; omega; omega; conv => whnf)
      | ((with_reducible refine Wr.inr ?_ ?_); (first | omega | (simp; omega)); conv => whnf)
      | ((with_reducible refine Wr.inu ?_ ?_); omega; conv => whnf)
      | ((with_reducible refine AltK.l ?_); (conv => whnf); (first | (refine CallK.mk _ (ev_lv1 m t hmb ht) ?_)); conv => whnf)
      | (exfalso; first | omega | contradiction))
    have e : (m.x - t == 0) = decide (m.x = t) := by rw [Bool.eq_iff_iff]; simp; omega
    simp only [retOf, foundX, hm, e]
  · have e : i = p := by omega
    subst e
    have hm : l[i]? = none := List.getElem?_eq_none (by omega)
    simp only [retOf, foundX, hm]
end Go.Proofs.Try
end

section
namespace Go.Proofs.Try
open Go Go.Vm
set_option maxRecDepth 20000
set_option maxHeartbeats 2000000
def mixS (a b : Ga) (x t : Int) : Int × Int × Bool :=
  if (atS a t).2.2 && (atS b t).2.2 then (((atS a t).1 * (b.x - x) + (atS b t).1 * (x - a.x)) / (b.x - a.x), upZ ((atS a t).2.1 * (b.x - x) + (atS b t).2.1 * (x - a.x)) (b.x - a.x), true) else (0, 0, false)
def lvF (l : List Ga) (x t : Int) (p : Nat) : Int × Int × Bool := match l[p]? with
  | none => match p with
    | 0 => (0, 0, false)
    | q + 1 => match l[q]? with
      | some a => atS a t
      | none => (0, 0, false)
  | some b => if b.x = x then atS b t else match p with
    | 0 => atS b t
    | q + 1 => match l[q]? with
      | some a => mixS a b x t
      | none => (0, 0, false)
def lvS (l : List Ga) (x t : Int) : Int × Int × Bool := lvF l x t (posX l x)
theorem at_bd {g : Ga} {t : Int} (h : Good g) : -60000001000 ≤ (atS g t).1 ∧ (atS g t).1 ≤ 60000001000 ∧ -60000001000 ≤ (atS g t).2.1 ∧ (atS g t).2.1 ≤ 60000001000 := by
  have hb := mean_bd (t := t) h
  have he := h.err
  have q1 := ediv_bd (a := (meanS g t).1) (M := 60000000000) hb.1 (by omega)
  have q2 := ediv_bd (a := -(meanS g t).1) (M := 60000000000) hb.1 (by omega)
  unfold atS
  split
  · simp only [upZ]; omega
  · simp only; omega
theorem ga_good {l : List Ga} (h : GoodAll l) {i : Nat} {g : Ga} (hg : l[i]? = some g) : Good g := good_of (h.each g (List.mem_of_getElem? hg))
theorem ga_lt {l : List Ga} (h : GoodAll l) {i : Nat} {a b : Ga} (ha : l[i]? = some a) (hb : l[i + 1]? = some b) : a.x < b.x := by
  have := (List.pairwise_iff_getElem.1 h.asc) i (i + 1) (lt_of_some ha) (lt_of_some hb) (by omega)
  rw [(List.getElem?_eq_some_iff.1 ha).2, (List.getElem?_eq_some_iff.1 hb).2] at this
  exact this
theorem ev_level {l : List Ga} {x t : Int} (h : GoodAll l) (hx : -1000000 ≤ x ∧ x ≤ 1000000) (ht : 0 ≤ t ∧ t ≤ 1000000) : Ev Try.prog 42 [.sl 4 (l.map gD), .int .i64 x, .int .i64 t] (at3D (lvS l x t)) := by
  have hlen : (l.map gD).length = l.length := List.length_map _
  have hl := h.len
  have hp := posX_spec (x := x) h.asc
  have hple := posX_le l x
  have hB := ev_BinX l x (posX l x) (by omega) (fun m hm => (good_of (h.each m hm)).x) (by omega) hple hp
  unfold lvS
  generalize posX l x = p at *
  have hfx : ∀ b, l[p]? = some b → foundX l p x = decide (b.x = x) := fun b hb => by simp only [foundX, hb]
  have hfn : l[p]? = none → foundX l p x = false := fun hb => by simp only [foundX, hb]
  cases hb : l[p]? with
  | some b =>
    have hpl := lt_of_some hb
    rw [hfx b hb] at hB
    have hat := ev_at (ga_good h hb) ht
    by_cases hbx : b.x = x
    · rw [show lvF l x t p = atS b t by simp [lvF, hb, hbx]]
      generalize atS b t = r at *
      obtain ⟨lo, hi, ok⟩ := r
      refine ev_of_awp tysOk mixed (fn := Try.f42) Try.func42 rfl rfl rfl ?_
      conv => whnf
      repeat' (first
        | ((refine PickE.map p hb (by omega) ?_); conv => whnf)
        | ((with_reducible refine Split.of_true ?_); conv => whnf)
        | ((with_reducible refine Split.of_false ?_); conv => whnf)
        | ((with_reducible refine Split.neg ?_))
        | ((with_reducible refine Split.is_true ?_ ?_); decide; conv => whnf)
        | ((with_reducible refine Split.is_false ?_ ?_); decide; conv => whnf)
        | ((with_reducible refine Split.nez (fun _ => ?_) (fun _ => ?_)) <;> conv => whnf)
        | ((with_reducible refine Split.eqz (fun _ => ?_) (fun _ => ?_)) <;> conv => whnf)
        | ((with_reducible refine Split.and ?_))
        | ((with_reducible refine Split.or ?_))
        | ((with_reducible refine Split.streq (fun _ => ?_) (fun _ => ?_)) <;> conv => whnf)
        | ((with_reducible refine Split.dec (fun _ => ?_) (fun _ => ?_)) <;> conv => whnf)
        | ((with_reducible refine Split.mk (fun _ => ?_) (fun _ => ?_)) <;> conv => whnf)
        | ((with_reducible refine NilK.mk (fun _ => ?_) ?_) <;> conv => whnf)
        | ((with_reducible refine AltK.l ?_); (conv => whnf); (with_reducible refine Need.mk ?_ ?_); (first | omega | (refine ⟨?_, ?_⟩ <;> simp <;> omega) | (simp; omega)); conv => whnf)
        | ((with_reducible refine Need.mk ?_ ?_); (first | omega | rfl | decide | (refine ⟨?_, ?_⟩ <;> simp <;> omega) | (simp; omega)); conv => whnf)
        | ((with_reducible refine Wr.quo ?_ ?_ ?_ ?_); omega; omega; omega; conv => whnf)
        | ((with_reducible refine Wr.inr ?_ ?_); (first | omega | (simp; omega)); conv => whnf)
        | ((with_reducible refine Wr.inu ?_ ?_); omega; conv => whnf)
        | ((with_reducible refine AltK.l ?_); (conv => whnf); (first | (refine CallK.mk _ (hB) ?_) | (refine CallK.mk _ (hat) ?_)); conv => whnf)
        | (exfalso; first | omega | contradiction))
      rfl
    · cases p with
      | zero =>
        rw [show lvF l x t 0 = atS b t by simp [lvF, hb, hbx]]
        generalize atS b t = r at *
        obtain ⟨lo, hi, ok⟩ := r
        refine ev_of_awp tysOk mixed (fn := Try.f42) Try.func42 rfl rfl rfl ?_
        conv => whnf
        repeat' (first
          | ((refine PickE.map 0 hb (by omega) ?_); conv => whnf)
          | ((with_reducible refine Split.of_true ?_); conv => whnf)
          | ((with_reducible refine Split.of_false ?_); conv => whnf)
          | ((with_reducible refine Split.neg ?_))
          | ((with_reducible refine Split.is_true ?_ ?_); decide; conv => whnf)
          | ((with_reducible refine Split.is_false ?_ ?_); decide; conv => whnf)
          | ((with_reducible refine Split.nez (fun _ => ?_) (fun _ => ?_)) <;> conv => whnf)
          | ((with_reducible refine Split.eqz (fun _ => ?_) (fun _ => ?_)) <;> conv => whnf)
          | ((with_reducible refine Split.and ?_))
          | ((with_reducible refine Split.or ?_))
          | ((with_reducible refine Split.streq (fun _ => ?_) (fun _ => ?_)) <;> conv => whnf)
          | ((with_reducible refine Split.dec (fun _ => ?_) (fun _ => ?_)) <;> conv => whnf)
          | ((with_reducible refine Split.mk (fun _ => ?_) (fun _ => ?_)) <;> conv => whnf)
          | ((with_reducible refine NilK.mk (fun _ => ?_) ?_) <;> conv => whnf)
          | ((with_reducible refine AltK.l ?_); (conv => whnf); (with_reducible refine Need.mk ?_ ?_); (first | omega | (refine ⟨?_, ?_⟩ <;> simp <;> omega) | (simp; omega)); conv => whnf)
          | ((with_reducible refine Need.mk ?_ ?_); (first | omega | rfl | decide | (refine ⟨?_, ?_⟩ <;> simp <;> omega) | (simp; omega)); conv => whnf)
          | ((with_reducible refine Wr.quo ?_ ?_ ?_ ?_); omega; omega; omega; conv => whnf)
          | ((with_reducible refine Wr.inr ?_ ?_); (first | omega | (simp; omega)); conv => whnf)
          | ((with_reducible refine Wr.inu ?_ ?_); omega; conv => whnf)
          | ((with_reducible refine AltK.l ?_); (conv => whnf); (first | (refine CallK.mk _ (hB) ?_) | (refine CallK.mk _ (hat) ?_)); conv => whnf)
          | (exfalso; first | omega | contradiction))
        rfl
      | succ q =>
        obtain ⟨a, ha⟩ := some_of_lt (l := l) (i := q) (by omega)
        have hga := ga_good h ha
        have hgb := ga_good h hb
        have hab := ga_lt h ha hb
        have hax := (hp q a ha).1 (by omega)
        have hbx' := (hp (q + 1) b hb).2 (by omega)
        have hta := ev_at hga ht
        rw [show lvF l x t (q + 1) = mixS a b x t by simp [lvF, hb, hbx, ha]]
        have b1 := at_bd (t := t) hga
        have b2 := at_bd (t := t) hgb
        have x1 := hga.x
        have x2 := hgb.x
        unfold mixS
        generalize atS a t = r at *
        generalize atS b t = s at *
        obtain ⟨lo, hi, ok⟩ := r
        obtain ⟨lo', hi', ok'⟩ := s
        dsimp only at b1 b2 ⊢
        have m1 := mul_bd (x := lo) (y := b.x - x) (X := 60000001000) (Y := 2000000) (by omega) (by omega)
        have m2 := mul_bd (x := lo') (y := x - a.x) (X := 60000001000) (Y := 2000000) (by omega) (by omega)
        have m3 := mul_bd (x := hi) (y := b.x - x) (X := 60000001000) (Y := 2000000) (by omega) (by omega)
        have m4 := mul_bd (x := hi') (y := x - a.x) (X := 60000001000) (Y := 2000000) (by omega) (by omega)
        have d1 := ev_down (lo * (b.x - x) + lo' * (x - a.x)) (b.x - a.x) (by omega) (by omega)
        have d2 := ev_up (hi * (b.x - x) + hi' * (x - a.x)) (b.x - a.x) (by omega) (by omega)
        cases ok <;> cases ok'
        · refine ev_of_awp tysOk mixed (fn := Try.f42) Try.func42 rfl rfl rfl ?_
          conv => whnf
          repeat' (first
            | ((refine PickE.map q ha (by omega) ?_); conv => whnf)
            | ((refine PickE.map (q + 1) hb (by omega) ?_); conv => whnf)
            | ((with_reducible refine Split.of_true ?_); conv => whnf)
            | ((with_reducible refine Split.of_false ?_); conv => whnf)
            | ((with_reducible refine Split.neg ?_))
            | ((with_reducible refine Split.is_true ?_ ?_); decide; conv => whnf)
            | ((with_reducible refine Split.is_false ?_ ?_); decide; conv => whnf)
            | ((with_reducible refine Split.nez (fun _ => ?_) (fun _ => ?_)) <;> conv => whnf)
            | ((with_reducible refine Split.eqz (fun _ => ?_) (fun _ => ?_)) <;> conv => whnf)
            | ((with_reducible refine Split.and ?_))
            | ((with_reducible refine Split.or ?_))
            | ((with_reducible refine Split.streq (fun _ => ?_) (fun _ => ?_)) <;> conv => whnf)
            | ((with_reducible refine Split.dec (fun _ => ?_) (fun _ => ?_)) <;> conv => whnf)
            | ((with_reducible refine Split.mk (fun _ => ?_) (fun _ => ?_)) <;> conv => whnf)
            | ((with_reducible refine NilK.mk (fun _ => ?_) ?_) <;> conv => whnf)
            | ((with_reducible refine AltK.l ?_); (conv => whnf); (with_reducible refine Need.mk ?_ ?_); (first | omega | (refine ⟨?_, ?_⟩ <;> simp <;> omega) | (simp; omega)); conv => whnf)
            | ((with_reducible refine Need.mk ?_ ?_); (first | omega | rfl | decide | (refine ⟨?_, ?_⟩ <;> simp <;> omega) | (simp; omega)); conv => whnf)
            | ((with_reducible refine Wr.quo ?_ ?_ ?_ ?_); omega; omega; omega; conv => whnf)
            | ((with_reducible refine Wr.inr ?_ ?_); (first | omega | (simp; omega)); conv => whnf)
            | ((with_reducible refine Wr.inu ?_ ?_); omega; conv => whnf)
            | ((with_reducible refine AltK.l ?_); (conv => whnf); (first | (refine CallK.mk _ (hB) ?_) | (refine CallK.mk _ (hta) ?_) | (refine CallK.mk _ (hat) ?_)); conv => whnf)
            | (exfalso; first | omega | contradiction))
          rfl
        · refine ev_of_awp tysOk mixed (fn := Try.f42) Try.func42 rfl rfl rfl ?_
          conv => whnf
          repeat' (first
            | ((refine PickE.map q ha (by omega) ?_); conv => whnf)
            | ((refine PickE.map (q + 1) hb (by omega) ?_); conv => whnf)
            | ((with_reducible refine Split.of_true ?_); conv => whnf)
            | ((with_reducible refine Split.of_false ?_); conv => whnf)
            | ((with_reducible refine Split.neg ?_))
            | ((with_reducible refine Split.is_true ?_ ?_); decide; conv => whnf)
            | ((with_reducible refine Split.is_false ?_ ?_); decide; conv => whnf)
            | ((with_reducible refine Split.nez (fun _ => ?_) (fun _ => ?_)) <;> conv => whnf)
            | ((with_reducible refine Split.eqz (fun _ => ?_) (fun _ => ?_)) <;> conv => whnf)
            | ((with_reducible refine Split.and ?_))
            | ((with_reducible refine Split.or ?_))
            | ((with_reducible refine Split.streq (fun _ => ?_) (fun _ => ?_)) <;> conv => whnf)
            | ((with_reducible refine Split.dec (fun _ => ?_) (fun _ => ?_)) <;> conv => whnf)
            | ((with_reducible refine Split.mk (fun _ => ?_) (fun _ => ?_)) <;> conv => whnf)
            | ((with_reducible refine NilK.mk (fun _ => ?_) ?_) <;> conv => whnf)
            | ((with_reducible refine AltK.l ?_); (conv => whnf); (with_reducible refine Need.mk ?_ ?_); (first | omega | (refine ⟨?_, ?_⟩ <;> simp <;> omega) | (simp; omega)); conv => whnf)
            | ((with_reducible refine Need.mk ?_ ?_); (first | omega | rfl | decide | (refine ⟨?_, ?_⟩ <;> simp <;> omega) | (simp; omega)); conv => whnf)
            | ((with_reducible refine Wr.quo ?_ ?_ ?_ ?_); omega; omega; omega; conv => whnf)
            | ((with_reducible refine Wr.inr ?_ ?_); (first | omega | (simp; omega)); conv => whnf)
            | ((with_reducible refine Wr.inu ?_ ?_); omega; conv => whnf)
            | ((with_reducible refine AltK.l ?_); (conv => whnf); (first | (refine CallK.mk _ (hB) ?_) | (refine CallK.mk _ (hta) ?_) | (refine CallK.mk _ (hat) ?_)); conv => whnf)
            | (exfalso; first | omega | contradiction))
          rfl
        · refine ev_of_awp tysOk mixed (fn := Try.f42) Try.func42 rfl rfl rfl ?_
          conv => whnf
          repeat' (first
            | ((refine PickE.map q ha (by omega) ?_); conv => whnf)
            | ((refine PickE.map (q + 1) hb (by omega) ?_); conv => whnf)
            | ((with_reducible refine Split.of_true ?_); conv => whnf)
            | ((with_reducible refine Split.of_false ?_); conv => whnf)
            | ((with_reducible refine Split.neg ?_))
            | ((with_reducible refine Split.is_true ?_ ?_); decide; conv => whnf)
            | ((with_reducible refine Split.is_false ?_ ?_); decide; conv => whnf)
            | ((with_reducible refine Split.nez (fun _ => ?_) (fun _ => ?_)) <;> conv => whnf)
            | ((with_reducible refine Split.eqz (fun _ => ?_) (fun _ => ?_)) <;> conv => whnf)
            | ((with_reducible refine Split.and ?_))
            | ((with_reducible refine Split.or ?_))
            | ((with_reducible refine Split.streq (fun _ => ?_) (fun _ => ?_)) <;> conv => whnf)
            | ((with_reducible refine Split.dec (fun _ => ?_) (fun _ => ?_)) <;> conv => whnf)
            | ((with_reducible refine Split.mk (fun _ => ?_) (fun _ => ?_)) <;> conv => whnf)
            | ((with_reducible refine NilK.mk (fun _ => ?_) ?_) <;> conv => whnf)
            | ((with_reducible refine AltK.l ?_); (conv => whnf); (with_reducible refine Need.mk ?_ ?_); (first | omega | (refine ⟨?_, ?_⟩ <;> simp <;> omega) | (simp; omega)); conv => whnf)
            | ((with_reducible refine Need.mk ?_ ?_); (first | omega | rfl | decide | (refine ⟨?_, ?_⟩ <;> simp <;> omega) | (simp; omega)); conv => whnf)
            | ((with_reducible refine Wr.quo ?_ ?_ ?_ ?_); omega; omega; omega; conv => whnf)
            | ((with_reducible refine Wr.inr ?_ ?_); (first | omega | (simp; omega)); conv => whnf)
            | ((with_reducible refine Wr.inu ?_ ?_); omega; conv => whnf)
            | ((with_reducible refine AltK.l ?_); (conv => whnf); (first | (refine CallK.mk _ (hB) ?_) | (refine CallK.mk _ (hta) ?_) | (refine CallK.mk _ (hat) ?_)); conv => whnf)
            | (exfalso; first | omega | contradiction))
          rfl
        · refine ev_of_awp tysOk mixed (fn := Try.f42) Try.func42 rfl rfl rfl ?_
          conv => whnf
          repeat' (first
            | ((refine PickE.map q ha (by omega) ?_); conv => whnf)
            | ((refine PickE.map (q + 1) hb (by omega) ?_); conv => whnf)
            | ((with_reducible refine Split.of_true ?_); conv => whnf)
            | ((with_reducible refine Split.of_false ?_); conv => whnf)
            | ((with_reducible refine Split.neg ?_))
            | ((with_reducible refine Split.is_true ?_ ?_); decide; conv => whnf)
            | ((with_reducible refine Split.is_false ?_ ?_); decide; conv => whnf)
            | ((with_reducible refine Split.nez (fun _ => ?_) (fun _ => ?_)) <;> conv => whnf)
            | ((with_reducible refine Split.eqz (fun _ => ?_) (fun _ => ?_)) <;> conv => whnf)
            | ((with_reducible refine Split.and ?_))
            | ((with_reducible refine Split.or ?_))
            | ((with_reducible refine Split.streq (fun _ => ?_) (fun _ => ?_)) <;> conv => whnf)
            | ((with_reducible refine Split.dec (fun _ => ?_) (fun _ => ?_)) <;> conv => whnf)
            | ((with_reducible refine Split.mk (fun _ => ?_) (fun _ => ?_)) <;> conv => whnf)
            | ((with_reducible refine NilK.mk (fun _ => ?_) ?_) <;> conv => whnf)
            | ((with_reducible refine AltK.l ?_); (conv => whnf); (with_reducible refine Need.mk ?_ ?_); (first | omega | (refine ⟨?_, ?_⟩ <;> simp <;> omega) | (simp; omega)); conv => whnf)
            | ((with_reducible refine Need.mk ?_ ?_); (first | omega | rfl | decide | (refine ⟨?_, ?_⟩ <;> simp <;> omega) | (simp; omega)); conv => whnf)
            | ((with_reducible refine Wr.quo ?_ ?_ ?_ ?_); omega; omega; omega; conv => whnf)
            | ((with_reducible refine Wr.inr ?_ ?_); (first | omega | (simp; omega)); conv => whnf)
            | ((with_reducible refine Wr.inu ?_ ?_); omega; conv => whnf)
            | ((with_reducible refine AltK.l ?_); (conv => whnf); (first | (refine CallK.mk _ (hB) ?_) | (refine CallK.mk _ (hta) ?_) | (refine CallK.mk _ (hat) ?_) | (refine CallK.mk _ (d1) ?_) | (refine CallK.mk _ (d2) ?_)); conv => whnf)
            | (exfalso; first | omega | contradiction))
          rfl
  | none =>
    have hpl := List.getElem?_eq_none_iff.1 hb
    rw [hfn hb] at hB
    cases p with
    | zero =>
      refine ev_of_awp tysOk mixed (fn := Try.f42) Try.func42 rfl rfl rfl ?_
      conv => whnf
      repeat' (first
        | ((with_reducible refine Split.of_true ?_); conv => whnf)
        | ((with_reducible refine Split.of_false ?_); conv => whnf)
        | ((with_reducible refine Split.neg ?_))
        | ((with_reducible refine Split.is_true ?_ ?_); decide; conv => whnf)
        | ((with_reducible refine Split.is_false ?_ ?_); decide; conv => whnf)
        | ((with_reducible refine Split.nez (fun _ => ?_) (fun _ => ?_)) <;> conv => whnf)
        | ((with_reducible refine Split.eqz (fun _ => ?_) (fun _ => ?_)) <;> conv => whnf)
        | ((with_reducible refine Split.and ?_))
        | ((with_reducible refine Split.or ?_))
        | ((with_reducible refine Split.streq (fun _ => ?_) (fun _ => ?_)) <;> conv => whnf)
        | ((with_reducible refine Split.dec (fun _ => ?_) (fun _ => ?_)) <;> conv => whnf)
        | ((with_reducible refine Split.mk (fun _ => ?_) (fun _ => ?_)) <;> conv => whnf)
        | ((with_reducible refine NilK.mk (fun _ => ?_) ?_) <;> conv => whnf)
        | ((with_reducible refine AltK.l ?_); (conv => whnf); (with_reducible refine Need.mk ?_ ?_); (first | omega | (refine ⟨?_, ?_⟩ <;> simp <;> omega) | (simp; omega)); conv => whnf)
        | ((with_reducible refine Need.mk ?_ ?_); (first | omega | rfl | decide | (refine ⟨?_, ?_⟩ <;> simp <;> omega) | (simp; omega)); conv => whnf)
        | ((with_reducible refine Wr.quo ?_ ?_ ?_ ?_); omega; omega; omega; conv => whnf)
        | ((with_reducible refine Wr.inr ?_ ?_); (first | omega | (simp; omega)); conv => whnf)
        | ((with_reducible refine Wr.inu ?_ ?_); omega; conv => whnf)
        | ((with_reducible refine AltK.l ?_); (conv => whnf); (first | (refine CallK.mk _ (hB) ?_)); conv => whnf)
        | (exfalso; first | omega | contradiction))
      simp [lvF, hb, retOf, at3D, ivD]
    | succ q =>
      obtain ⟨a, ha⟩ := some_of_lt (l := l) (i := q) (by omega)
      have hta := ev_at (ga_good h ha) ht
      rw [show lvF l x t (q + 1) = atS a t by simp [lvF, hb, ha]]
      generalize atS a t = r at *
      obtain ⟨lo, hi, ok⟩ := r
      refine ev_of_awp tysOk mixed (fn := Try.f42) Try.func42 rfl rfl rfl ?_
      conv => whnf
      repeat' (first
        | ((refine PickE.map q ha (by omega) ?_); conv => whnf)
        | ((with_reducible refine Split.of_true ?_); conv => whnf)
        | ((with_reducible refine Split.of_false ?_); conv => whnf)
        | ((with_reducible refine Split.neg ?_))
        | ((with_reducible refine Split.is_true ?_ ?_); decide; conv => whnf)
        | ((with_reducible refine Split.is_false ?_ ?_); decide; conv => whnf)
        | ((with_reducible refine Split.nez (fun _ => ?_) (fun _ => ?_)) <;> conv => whnf)
        | ((with_reducible refine Split.eqz (fun _ => ?_) (fun _ => ?_)) <;> conv => whnf)
        | ((with_reducible refine Split.and ?_))
        | ((with_reducible refine Split.or ?_))
        | ((with_reducible refine Split.streq (fun _ => ?_) (fun _ => ?_)) <;> conv => whnf)
        | ((with_reducible refine Split.dec (fun _ => ?_) (fun _ => ?_)) <;> conv => whnf)
        | ((with_reducible refine Split.mk (fun _ => ?_) (fun _ => ?_)) <;> conv => whnf)
        | ((with_reducible refine NilK.mk (fun _ => ?_) ?_) <;> conv => whnf)
        | ((with_reducible refine AltK.l ?_); (conv => whnf); (with_reducible refine Need.mk ?_ ?_); (first | omega | (refine ⟨?_, ?_⟩ <;> simp <;> omega) | (simp; omega)); conv => whnf)
        | ((with_reducible refine Need.mk ?_ ?_); (first | omega | rfl | decide | (refine ⟨?_, ?_⟩ <;> simp <;> omega) | (simp; omega)); conv => whnf)
        | ((with_reducible refine Wr.quo ?_ ?_ ?_ ?_); omega; omega; omega; conv => whnf)
        | ((with_reducible refine Wr.inr ?_ ?_); (first | omega | (simp; omega)); conv => whnf)
        | ((with_reducible refine Wr.inu ?_ ?_); omega; conv => whnf)
        | ((with_reducible refine AltK.l ?_); (conv => whnf); (first | (refine CallK.mk _ (hB) ?_) | (refine CallK.mk _ (hta) ?_)); conv => whnf)
        | (exfalso; first | omega | contradiction))
      rfl
def LvS (l : List Ga) (x t : Int) : Int × Int × Int := if gsErr l ≠ 0 then (0, 0, gsErr l) else if outsideB x (-1000000) 1000000 || outsideB t 0 1000000 then (0, 0, 2) else
  if (lvS l x t).2.2 then ((lvS l x t).1, (lvS l x t).2.1, 0) else (0, 0, 11)
theorem ev_Level (l : List Ga) (x t : Int) : Ev Try.prog 18 [.sl 4 (l.map gD), .int .i64 x, .int .i64 t] (At3D (LvS l x t)) := by
  have hc := ev_CheckGauges l
  by_cases h0 : gsErr l = 0
  · by_cases hx : outsideB x (-1000000) 1000000 = true
    · refine ev_of_awp tysOk mixed (fn := Try.f18) Try.func18 rfl rfl rfl ?_
      conv => whnf
      repeat' (first
        | ((with_reducible refine Split.of_true ?_); conv => whnf)
        | ((with_reducible refine Split.of_false ?_); conv => whnf)
        | ((with_reducible refine Split.neg ?_))
        | ((with_reducible refine Split.is_true ?_ ?_); decide; conv => whnf)
        | ((with_reducible refine Split.is_false ?_ ?_); decide; conv => whnf)
        | ((with_reducible refine Split.nez (fun _ => ?_) (fun _ => ?_)) <;> conv => whnf)
        | ((with_reducible refine Split.eqz (fun _ => ?_) (fun _ => ?_)) <;> conv => whnf)
        | ((with_reducible refine Split.and ?_))
        | ((with_reducible refine Split.or ?_))
        | ((with_reducible refine Split.streq (fun _ => ?_) (fun _ => ?_)) <;> conv => whnf)
        | ((with_reducible refine Split.dec (fun _ => ?_) (fun _ => ?_)) <;> conv => whnf)
        | ((with_reducible refine Split.mk (fun _ => ?_) (fun _ => ?_)) <;> conv => whnf)
        | ((with_reducible refine NilK.mk (fun _ => ?_) ?_) <;> conv => whnf)
        | ((with_reducible refine AltK.l ?_); (conv => whnf); (with_reducible refine Need.mk ?_ ?_); (first | omega | (refine ⟨?_, ?_⟩ <;> simp <;> omega) | (simp; omega)); conv => whnf)
        | ((with_reducible refine Need.mk ?_ ?_); (first | omega | rfl | decide | (refine ⟨?_, ?_⟩ <;> simp <;> omega) | (simp; omega)); conv => whnf)
        | ((with_reducible refine Wr.quo ?_ ?_ ?_ ?_); omega; omega; omega; conv => whnf)
        | ((with_reducible refine Wr.inr ?_ ?_); (first | omega | (simp; omega)); conv => whnf)
        | ((with_reducible refine Wr.inu ?_ ?_); omega; conv => whnf)
        | ((with_reducible refine AltK.l ?_); (conv => whnf); (first | (refine CallK.mk _ (hc) ?_) | (refine CallK.mk _ (ev_outside _ _ _) ?_)); conv => whnf)
        | (exfalso; first | omega | contradiction))
      all_goals simp_all [retOf, At3D, LvS, ivD]
    · by_cases ht : outsideB t 0 1000000 = true
      · refine ev_of_awp tysOk mixed (fn := Try.f18) Try.func18 rfl rfl rfl ?_
        conv => whnf
        repeat' (first
          | ((with_reducible refine Split.of_true ?_); conv => whnf)
          | ((with_reducible refine Split.of_false ?_); conv => whnf)
          | ((with_reducible refine Split.neg ?_))
          | ((with_reducible refine Split.is_true ?_ ?_); decide; conv => whnf)
          | ((with_reducible refine Split.is_false ?_ ?_); decide; conv => whnf)
          | ((with_reducible refine Split.nez (fun _ => ?_) (fun _ => ?_)) <;> conv => whnf)
          | ((with_reducible refine Split.eqz (fun _ => ?_) (fun _ => ?_)) <;> conv => whnf)
          | ((with_reducible refine Split.and ?_))
          | ((with_reducible refine Split.or ?_))
          | ((with_reducible refine Split.streq (fun _ => ?_) (fun _ => ?_)) <;> conv => whnf)
          | ((with_reducible refine Split.dec (fun _ => ?_) (fun _ => ?_)) <;> conv => whnf)
          | ((with_reducible refine Split.mk (fun _ => ?_) (fun _ => ?_)) <;> conv => whnf)
          | ((with_reducible refine NilK.mk (fun _ => ?_) ?_) <;> conv => whnf)
          | ((with_reducible refine AltK.l ?_); (conv => whnf); (with_reducible refine Need.mk ?_ ?_); (first | omega | (refine ⟨?_, ?_⟩ <;> simp <;> omega) | (simp; omega)); conv => whnf)
          | ((with_reducible refine Need.mk ?_ ?_); (first | omega | rfl | decide | (refine ⟨?_, ?_⟩ <;> simp <;> omega) | (simp; omega)); conv => whnf)
          | ((with_reducible refine Wr.quo ?_ ?_ ?_ ?_); omega; omega; omega; conv => whnf)
          | ((with_reducible refine Wr.inr ?_ ?_); (first | omega | (simp; omega)); conv => whnf)
          | ((with_reducible refine Wr.inu ?_ ?_); omega; conv => whnf)
          | ((with_reducible refine AltK.l ?_); (conv => whnf); (first | (refine CallK.mk _ (hc) ?_) | (refine CallK.mk _ (ev_outside _ _ _) ?_)); conv => whnf)
          | (exfalso; first | omega | contradiction))
        all_goals simp_all [retOf, At3D, LvS, ivD]
      · have hx' : -1000000 ≤ x ∧ x ≤ 1000000 := by simp [outsideB] at hx; omega
        have ht' : 0 ≤ t ∧ t ≤ 1000000 := by simp [outsideB] at ht; omega
        have hL := ev_level (goodAll h0) hx' ht'
        have e : LvS l x t = if (lvS l x t).2.2 then ((lvS l x t).1, (lvS l x t).2.1, 0) else (0, 0, 11) := by simp [LvS, h0, hx, ht]
        rw [e]
        generalize lvS l x t = r at *
        obtain ⟨lo, hi, ok⟩ := r
        rw [h0] at hc
        cases ok
        · refine ev_of_awp tysOk mixed (fn := Try.f18) Try.func18 rfl rfl rfl ?_
          conv => whnf
          repeat' (first
            | ((with_reducible refine Split.of_true ?_); conv => whnf)
            | ((with_reducible refine Split.of_false ?_); conv => whnf)
            | ((with_reducible refine Split.neg ?_))
            | ((with_reducible refine Split.is_true ?_ ?_); decide; conv => whnf)
            | ((with_reducible refine Split.is_false ?_ ?_); decide; conv => whnf)
            | ((with_reducible refine Split.nez (fun _ => ?_) (fun _ => ?_)) <;> conv => whnf)
            | ((with_reducible refine Split.eqz (fun _ => ?_) (fun _ => ?_)) <;> conv => whnf)
            | ((with_reducible refine Split.and ?_))
            | ((with_reducible refine Split.or ?_))
            | ((with_reducible refine Split.streq (fun _ => ?_) (fun _ => ?_)) <;> conv => whnf)
            | ((with_reducible refine Split.dec (fun _ => ?_) (fun _ => ?_)) <;> conv => whnf)
            | ((with_reducible refine Split.mk (fun _ => ?_) (fun _ => ?_)) <;> conv => whnf)
            | ((with_reducible refine NilK.mk (fun _ => ?_) ?_) <;> conv => whnf)
            | ((with_reducible refine AltK.l ?_); (conv => whnf); (with_reducible refine Need.mk ?_ ?_); (first | omega | (refine ⟨?_, ?_⟩ <;> simp <;> omega) | (simp; omega)); conv => whnf)
            | ((with_reducible refine Need.mk ?_ ?_); (first | omega | rfl | decide | (refine ⟨?_, ?_⟩ <;> simp <;> omega) | (simp; omega)); conv => whnf)
            | ((with_reducible refine Wr.quo ?_ ?_ ?_ ?_); omega; omega; omega; conv => whnf)
            | ((with_reducible refine Wr.inr ?_ ?_); (first | omega | (simp; omega)); conv => whnf)
            | ((with_reducible refine Wr.inu ?_ ?_); omega; conv => whnf)
            | ((with_reducible refine AltK.l ?_); (conv => whnf); (first | (refine CallK.mk _ (hc) ?_) | (refine CallK.mk _ (ev_outside _ _ _) ?_) | (refine CallK.mk _ (hL) ?_)); conv => whnf)
            | (exfalso; first | omega | contradiction))
          rfl
        · refine ev_of_awp tysOk mixed (fn := Try.f18) Try.func18 rfl rfl rfl ?_
          conv => whnf
          repeat' (first
            | ((with_reducible refine Split.of_true ?_); conv => whnf)
            | ((with_reducible refine Split.of_false ?_); conv => whnf)
            | ((with_reducible refine Split.neg ?_))
            | ((with_reducible refine Split.is_true ?_ ?_); decide; conv => whnf)
            | ((with_reducible refine Split.is_false ?_ ?_); decide; conv => whnf)
            | ((with_reducible refine Split.nez (fun _ => ?_) (fun _ => ?_)) <;> conv => whnf)
            | ((with_reducible refine Split.eqz (fun _ => ?_) (fun _ => ?_)) <;> conv => whnf)
            | ((with_reducible refine Split.and ?_))
            | ((with_reducible refine Split.or ?_))
            | ((with_reducible refine Split.streq (fun _ => ?_) (fun _ => ?_)) <;> conv => whnf)
            | ((with_reducible refine Split.dec (fun _ => ?_) (fun _ => ?_)) <;> conv => whnf)
            | ((with_reducible refine Split.mk (fun _ => ?_) (fun _ => ?_)) <;> conv => whnf)
            | ((with_reducible refine NilK.mk (fun _ => ?_) ?_) <;> conv => whnf)
            | ((with_reducible refine AltK.l ?_); (conv => whnf); (with_reducible refine Need.mk ?_ ?_); (first | omega | (refine ⟨?_, ?_⟩ <;> simp <;> omega) | (simp; omega)); conv => whnf)
            | ((with_reducible refine Need.mk ?_ ?_); (first | omega | rfl | decide | (refine ⟨?_, ?_⟩ <;> simp <;> omega) | (simp; omega)); conv => whnf)
            | ((with_reducible refine Wr.quo ?_ ?_ ?_ ?_); omega; omega; omega; conv => whnf)
            | ((with_reducible refine Wr.inr ?_ ?_); (first | omega | (simp; omega)); conv => whnf)
            | ((with_reducible refine Wr.inu ?_ ?_); omega; conv => whnf)
            | ((with_reducible refine AltK.l ?_); (conv => whnf); (first | (refine CallK.mk _ (hc) ?_) | (refine CallK.mk _ (ev_outside _ _ _) ?_) | (refine CallK.mk _ (hL) ?_)); conv => whnf)
            | (exfalso; first | omega | contradiction))
          rfl
  · refine ev_of_awp tysOk mixed (fn := Try.f18) Try.func18 rfl rfl rfl ?_
    conv => whnf
    repeat' (first
      | ((with_reducible refine Split.of_true ?_); conv => whnf)
      | ((with_reducible refine Split.of_false ?_); conv => whnf)
      | ((with_reducible refine Split.neg ?_))
      | ((with_reducible refine Split.is_true ?_ ?_); decide; conv => whnf)
      | ((with_reducible refine Split.is_false ?_ ?_); decide; conv => whnf)
      | ((with_reducible refine Split.nez (fun _ => ?_) (fun _ => ?_)) <;> conv => whnf)
      | ((with_reducible refine Split.eqz (fun _ => ?_) (fun _ => ?_)) <;> conv => whnf)
      | ((with_reducible refine Split.and ?_))
      | ((with_reducible refine Split.or ?_))
      | ((with_reducible refine Split.streq (fun _ => ?_) (fun _ => ?_)) <;> conv => whnf)
      | ((with_reducible refine Split.dec (fun _ => ?_) (fun _ => ?_)) <;> conv => whnf)
      | ((with_reducible refine Split.mk (fun _ => ?_) (fun _ => ?_)) <;> conv => whnf)
      | ((with_reducible refine NilK.mk (fun _ => ?_) ?_) <;> conv => whnf)
      | ((with_reducible refine AltK.l ?_); (conv => whnf); (with_reducible refine Need.mk ?_ ?_); (first | omega | (refine ⟨?_, ?_⟩ <;> simp <;> omega) | (simp; omega)); conv => whnf)
      | ((with_reducible refine Need.mk ?_ ?_); (first | omega | rfl | decide | (refine ⟨?_, ?_⟩ <;> simp <;> omega) | (simp; omega)); conv => whnf)
      | ((with_reducible refine Wr.quo ?_ ?_ ?_ ?_); omega; omega; omega; conv => whnf)
      | ((with_reducible refine Wr.inr ?_ ?_); (first | omega | (simp; omega)); conv => whnf)
      | ((with_reducible refine Wr.inu ?_ ?_); omega; conv => whnf)
      | ((with_reducible refine AltK.l ?_); (conv => whnf); (first | (refine CallK.mk _ (hc) ?_) | (refine CallK.mk _ (ev_outside _ _ _) ?_)); conv => whnf)
      | (exfalso; first | omega | contradiction))
    all_goals simp_all [retOf, At3D, LvS, ivD]
theorem ev_Within (n lo hi : Int) : Ev Try.prog 14 [.int .i64 n, .int .i64 lo, .int .i64 hi] (.bool (!outsideB n lo hi)) := by
  refine ev_of_awp tysOk mixed (fn := Try.f14) Try.func14 rfl rfl rfl ?_
  conv => whnf
  repeat' (first
    | ((with_reducible refine Split.of_true ?_); conv => whnf)
    | ((with_reducible refine Split.of_false ?_); conv => whnf)
    | ((with_reducible refine Split.neg ?_))
    | ((with_reducible refine Split.is_true ?_ ?_); decide; conv => whnf)
    | ((with_reducible refine Split.is_false ?_ ?_); decide; conv => whnf)
    | ((with_reducible refine Split.nez (fun _ => ?_) (fun _ => ?_)) <;> conv => whnf)
    | ((with_reducible refine Split.eqz (fun _ => ?_) (fun _ => ?_)) <;> conv => whnf)
    | ((with_reducible refine Split.and ?_))
    | ((with_reducible refine Split.or ?_))
    | ((with_reducible refine Split.streq (fun _ => ?_) (fun _ => ?_)) <;> conv => whnf)
    | ((with_reducible refine Split.dec (fun _ => ?_) (fun _ => ?_)) <;> conv => whnf)
    | ((with_reducible refine Split.mk (fun _ => ?_) (fun _ => ?_)) <;> conv => whnf)
    | ((with_reducible refine NilK.mk (fun _ => ?_) ?_) <;> conv => whnf)
    | ((with_reducible refine AltK.l ?_); (conv => whnf); (with_reducible refine Need.mk ?_ ?_); (first | omega | (refine ⟨?_, ?_⟩ <;> simp <;> omega) | (simp; omega)); conv => whnf)
    | ((with_reducible refine Need.mk ?_ ?_); (first | omega | rfl | decide | (refine ⟨?_, ?_⟩ <;> simp <;> omega) | (simp; omega)); conv => whnf)
    | ((with_reducible refine Wr.quo ?_ ?_ ?_ ?_); omega; omega; omega; conv => whnf)
    | ((with_reducible refine Wr.inr ?_ ?_); (first | omega | (simp; omega)); conv => whnf)
    | ((with_reducible refine Wr.inu ?_ ?_); omega; conv => whnf)
    | (exfalso; first | omega | contradiction))
  all_goals
    simp only [retOf, outsideB]
    congr 1
    rw [Bool.eq_iff_iff]
    simp
    omega
end Go.Proofs.Try
end
