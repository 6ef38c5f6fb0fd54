import Derived.Test.YtcgfcbmlmfbknaaTwH
namespace Go.Proofs.Try
open Go Go.Vm
set_option maxRecDepth 20000
set_option maxHeartbeats 2000000
def shM (z : Int) (m : Mk) : Mk := ⟨m.m, m.l + z⟩
def shG (z : Int) (g : Ga) : Ga := { g with marks := g.marks.map (shM z) }
def badSh (z : Int) (g : Ga) : Bool := g.marks.any fun m => wrongB m.m (m.l + z)
def shE (z : Int) (g : Ga) : Int := if gErr g ≠ 0 then gErr g else if outsideB z (-40000) 40000 || badSh z g then 2 else 0
def shR (z : Int) (g : Ga) : Ga := if shE z g = 0 then shG z g else gzG
theorem bad_at {z : Int} {g : Ga} {i : Nat} {m : Mk} (hm : g.marks[i]? = some m) (h : wrongB m.m (m.l + z) = true) : badSh z g = true :=
  List.any_eq_true.2 ⟨m, List.mem_of_getElem? hm, h⟩
theorem take_snoc {α : Type} {l : List α} {i : Nat} {m : α} (h : l[i]? = some m) : l.take (i + 1) = l.take i ++ [m] := by
  rw [List.take_add_one, h]; rfl
theorem not_bad {z : Int} {g : Ga} (h : ∀ m ∈ g.marks, wrongB m.m (m.l + z) = false) : badSh z g = false := by
  rw [Bool.eq_false_iff]; intro hb
  obtain ⟨m, hm, hw⟩ := List.any_eq_true.1 hb
  rw [h m hm] at hw; cases hw
theorem ev_Shift (g : Ga) (z : Int) : Ev Try.prog 25 [gD g, .int .i64 z] (.tup [gD (shR z g), .int .i64 (shE z g)]) := by
  have hlen : (g.marks.map mD).length = g.marks.length := List.length_map _
  refine ev_of_awp tysOk mixed (fn := Try.f25) Try.func25 rfl rfl rfl ?_
  conv => whnf
  repeat' (first
    | ((with_reducible refine Split.of_true ?_); conv => whnf)
    | ((with_reducible refine Split.of_false ?_); conv => whnf)
    | ((with_reducible refine Split.neg ?_))
    | ((with_reducible refine Split.is_true ?_ ?_); decide; conv => whnf)
    | ((with_reducible refine Split.is_false ?_ ?_); decide; conv => whnf)
    | ((with_reducible refine Split.nez (fun _ => ?_) (fun _ => ?_)) <;> conv => whnf)
    | ((with_reducible refine Split.eqz (fun _ => ?_) (fun _ => ?_)) <;> conv => whnf)
    | ((with_reducible refine Split.and ?_))
    | ((with_reducible refine Split.or ?_))
    | ((with_reducible refine Split.streq (fun _ => ?_) (fun _ => ?_)) <;> conv => whnf)
    | ((with_reducible refine Split.dec (fun _ => ?_) (fun _ => ?_)) <;> conv => whnf)
    | ((with_reducible refine Split.mk (fun _ => ?_) (fun _ => ?_)) <;> conv => whnf)
    | ((with_reducible refine Need.mk ?_ ?_); (first | omega | rfl | decide | (refine ⟨?_, ?_⟩ <;> simp <;> omega) | (simp; omega)); conv => whnf)
    | ((with_reducible refine Wr.inr ?_ ?_); (first | omega | (simp; omega)); conv => whnf)
    | ((with_reducible refine Wr.inu ?_ ?_); omega; conv => whnf)
    | (refine CallK.mk _ (ev_CheckGauge g) ?_; conv => whnf)
    | (refine CallK.mk _ (ev_outside _ _ _) ?_; conv => whnf)
    | (exfalso; first | omega | contradiction))
  · simp_all [retOf, shR, shE]; rfl
  · simp_all [retOf, shR, shE]; rfl
  have h0 : gErr g = 0 := by assumption
  have hz : outsideB z (-40000) 40000 = false := by assumption
  have hzb : -40000 ≤ z ∧ z ≤ 40000 := by simp [outsideB] at hz; omega
  have hG := good_of h0
  have hl := hG.len
  refine LoopK.ov (fun i : Nat => i ≤ g.marks.length ∧ ∀ m ∈ g.marks.take i, wrongB m.m (m.l + z) = false)
    (fun i => [(7, .own 200 2 (((g.marks.take i).map (shM z)).map mD).length), (22, .d (.int .i64 i))]) [] (fun i => [(200, .row 48 2 (((g.marks.take i).map (shM z)).map mD) false)])
    (fun i => g.marks.length - i) 0 (by simp) ⟨by (repeat' (first | exact True.intro | exact rfl | refine ⟨?_, ?_⟩ | (intro h; cases h; done) | (intro h; exact h) | exact map_snoc | (refine own_congr ?_; simp; done) | (refine int_congr ?_; (first | omega | (simp; omega))) | (simp; done))), by (repeat' (first | exact True.intro | exact rfl | refine ⟨?_, ?_⟩ | (intro h; cases h; done) | (intro h; exact h) | exact map_snoc | (refine own_congr ?_; simp; done) | (refine int_congr ?_; (first | omega | (simp; omega))) | (simp; done))), rfl⟩ ?_
  rintro i ⟨hi, hok⟩
  have hlo : (((g.marks.take i).map (shM z)).map mD).length = i := by simp; omega
  have hn : (i : Int) < g.marks.length → ∃ m, g.marks[i]? = some m := fun h => some_of_lt (by omega)
  conv => whnf
  repeat' (first
    | ((with_reducible refine Split.of_true ?_); conv => whnf)
    | ((with_reducible refine Split.of_false ?_); conv => whnf)
    | ((with_reducible refine Split.neg ?_))
    | ((with_reducible refine Split.is_true ?_ ?_); decide; conv => whnf)
    | ((with_reducible refine Split.is_false ?_ ?_); decide; conv => whnf)
    | ((with_reducible refine Split.nez (fun _ => ?_) (fun _ => ?_)) <;> conv => whnf)
    | ((with_reducible refine Split.eqz (fun _ => ?_) (fun _ => ?_)) <;> conv => whnf)
    | ((with_reducible refine Split.and ?_))
    | ((with_reducible refine Split.or ?_))
    | ((with_reducible refine Split.streq (fun _ => ?_) (fun _ => ?_)) <;> conv => whnf)
    | ((with_reducible refine Split.dec (fun _ => ?_) (fun _ => ?_)) <;> conv => whnf)
    | ((with_reducible refine Split.mk (fun _ => ?_) (fun _ => ?_)) <;> conv => whnf)
    | ((with_reducible refine Need.mk ?_ ?_); (first | omega | rfl | decide | (refine ⟨?_, ?_⟩ <;> simp <;> omega) | (simp; omega)); conv => whnf)
    | ((with_reducible refine Wr.inr ?_ ?_); (first | omega | (simp; omega)); conv => whnf)
    | ((with_reducible refine Wr.inu ?_ ?_); omega; conv => whnf)
    | (exfalso; first | omega | contradiction))
  · obtain ⟨m, hm⟩ := hn (by omega)
    have hmb := wrongB_false (hG.ok m (List.mem_of_getElem? hm))
    refine PickE.map i hm (by omega) ?_
    conv => whnf
    repeat' (first
      | ((with_reducible refine Split.of_true ?_); conv => whnf)
      | ((with_reducible refine Split.of_false ?_); conv => whnf)
      | ((with_reducible refine Split.neg ?_))
      | ((with_reducible refine Split.is_true ?_ ?_); decide; conv => whnf)
      | ((with_reducible refine Split.is_false ?_ ?_); decide; conv => whnf)
      | ((with_reducible refine Split.nez (fun _ => ?_) (fun _ => ?_)) <;> conv => whnf)
      | ((with_reducible refine Split.eqz (fun _ => ?_) (fun _ => ?_)) <;> conv => whnf)
      | ((with_reducible refine Split.and ?_))
      | ((with_reducible refine Split.or ?_))
      | ((with_reducible refine Split.streq (fun _ => ?_) (fun _ => ?_)) <;> conv => whnf)
      | ((with_reducible refine Split.dec (fun _ => ?_) (fun _ => ?_)) <;> conv => whnf)
      | ((with_reducible refine Split.mk (fun _ => ?_) (fun _ => ?_)) <;> conv => whnf)
      | ((with_reducible refine Need.mk ?_ ?_); (first | omega | rfl | decide | (refine ⟨?_, ?_⟩ <;> simp <;> omega) | (simp; omega)); conv => whnf)
      | ((with_reducible refine Wr.inr ?_ ?_); (first | omega | (simp; omega)); conv => whnf)
      | ((with_reducible refine Wr.inu ?_ ?_); omega; conv => whnf)
      | (refine CallK.mk _ (ev_wrongMark _ _) ?_; conv => whnf)
      | (exfalso; first | omega | contradiction))
    · have hb := bad_at hm (by assumption)
      simp_all [retOf, shR, shE]; rfl
    · have hb : wrongB m.m (m.l + z) = false := by assumption
      refine Again.au (i + 1) ⟨by omega, ?_⟩ (by omega) ?_
      · rw [take_snoc hm]
        intro x hx
        rcases List.mem_append.1 hx with hx | hx
        · exact hok x hx
        · rw [List.mem_singleton.1 hx]; exact hb
      · rw [take_snoc hm, List.map_append, List.map_append]
        exact ⟨by (repeat' (first | exact True.intro | exact rfl | refine ⟨?_, ?_⟩ | (intro h; cases h; done) | (intro h; exact h) | exact map_snoc | (refine own_congr ?_; simp; done) | (refine int_congr ?_; (first | omega | (simp; omega))) | (simp; done))), by (repeat' (first | exact True.intro | exact rfl | refine ⟨?_, ?_⟩ | (intro h; cases h; done) | (intro h; exact h) | exact map_snoc | (refine own_congr ?_; simp; done) | (refine int_congr ?_; (first | omega | (simp; omega))) | (simp; done))), rfl⟩
  · rw [List.take_of_length_le (by omega)] at hok ⊢
    have hb := not_bad hok
    conv => whnf
    repeat' (first
      | ((with_reducible refine Split.of_true ?_); conv => whnf)
      | ((with_reducible refine Split.of_false ?_); conv => whnf)
      | ((with_reducible refine Split.neg ?_))
      | ((with_reducible refine Split.is_true ?_ ?_); decide; conv => whnf)
      | ((with_reducible refine Split.is_false ?_ ?_); decide; conv => whnf)
      | ((with_reducible refine Split.nez (fun _ => ?_) (fun _ => ?_)) <;> conv => whnf)
      | ((with_reducible refine Split.eqz (fun _ => ?_) (fun _ => ?_)) <;> conv => whnf)
      | ((with_reducible refine Split.and ?_))
      | ((with_reducible refine Split.or ?_))
      | ((with_reducible refine Split.streq (fun _ => ?_) (fun _ => ?_)) <;> conv => whnf)
      | ((with_reducible refine Split.dec (fun _ => ?_) (fun _ => ?_)) <;> conv => whnf)
      | ((with_reducible refine Split.mk (fun _ => ?_) (fun _ => ?_)) <;> conv => whnf)
      | ((with_reducible refine Need.mk ?_ ?_); (first | omega | rfl | decide | (refine ⟨?_, ?_⟩ <;> simp <;> omega) | (simp; omega)); conv => whnf)
      | ((with_reducible refine Wr.inr ?_ ?_); (first | omega | (simp; omega)); conv => whnf)
      | ((with_reducible refine Wr.inu ?_ ?_); omega; conv => whnf)
      | (refine CallK.mk _ (ev_with g (g.marks.map (shM z))) ?_; conv => whnf)
      | (exfalso; first | omega | contradiction))
    have e : shE z g = 0 := by simp [shE, h0, hz, hb]
    rw [shR, if_pos e, e]; rfl
theorem ev_ShiftR (g : Ga) (z : Int) : Ev Try.prog 26 [gD g, .int .i64 z] (.tup [gD (shR z g), .int .i64 (shE z g)]) := by
  have hlen : (g.marks.map mD).length = g.marks.length := List.length_map _
  refine ev_of_awp tysOk mixed (fn := Try.f26) Try.func26 rfl rfl rfl ?_
  conv => whnf
  repeat' (first
    | ((with_reducible refine Split.of_true ?_); conv => whnf)
    | ((with_reducible refine Split.of_false ?_); conv => whnf)
    | ((with_reducible refine Split.neg ?_))
    | ((with_reducible refine Split.is_true ?_ ?_); decide; conv => whnf)
    | ((with_reducible refine Split.is_false ?_ ?_); decide; conv => whnf)
    | ((with_reducible refine Split.nez (fun _ => ?_) (fun _ => ?_)) <;> conv => whnf)
    | ((with_reducible refine Split.eqz (fun _ => ?_) (fun _ => ?_)) <;> conv => whnf)
    | ((with_reducible refine Split.and ?_))
    | ((with_reducible refine Split.or ?_))
    | ((with_reducible refine Split.streq (fun _ => ?_) (fun _ => ?_)) <;> conv => whnf)
    | ((with_reducible refine Split.dec (fun _ => ?_) (fun _ => ?_)) <;> conv => whnf)
    | ((with_reducible refine Split.mk (fun _ => ?_) (fun _ => ?_)) <;> conv => whnf)
    | ((with_reducible refine Need.mk ?_ ?_); (first | omega | rfl | decide | (refine ⟨?_, ?_⟩ <;> simp <;> omega) | (simp; omega)); conv => whnf)
    | ((with_reducible refine Wr.inr ?_ ?_); (first | omega | (simp; omega)); conv => whnf)
    | ((with_reducible refine Wr.inu ?_ ?_); omega; conv => whnf)
    | (refine CallK.mk _ (ev_CheckGaugeR g) ?_; conv => whnf)
    | (refine CallK.mk _ (ev_inside _ _ _) ?_; conv => whnf)
    | (exfalso; first | omega | contradiction))
  · simp_all [retOf, shR, shE]; rfl
  · simp_all [retOf, shR, shE]; rfl
  have h0 : gErr g = 0 := by assumption
  have hz : outsideB z (-40000) 40000 = false := by assumption
  have hzb : -40000 ≤ z ∧ z ≤ 40000 := by simp [outsideB] at hz; omega
  have hG := good_of h0
  have hl := hG.len
  refine LoopK.ov (fun i : Nat => i ≤ g.marks.length ∧ ∀ m ∈ g.marks.take i, wrongB m.m (m.l + z) = false)
    (fun i => [(7, .own 200 2 (((g.marks.take i).map (shM z)).map mD).length), (8, .d (.int .i64 i))]) [] (fun i => [(200, .row 48 2 (((g.marks.take i).map (shM z)).map mD) false)])
    (fun i => g.marks.length - i) 0 (by simp) ⟨by (repeat' (first | exact True.intro | exact rfl | refine ⟨?_, ?_⟩ | (intro h; cases h; done) | (intro h; exact h) | exact map_snoc | (refine own_congr ?_; simp; done) | (refine int_congr ?_; (first | omega | (simp; omega))) | (simp; done))), by (repeat' (first | exact True.intro | exact rfl | refine ⟨?_, ?_⟩ | (intro h; cases h; done) | (intro h; exact h) | exact map_snoc | (refine own_congr ?_; simp; done) | (refine int_congr ?_; (first | omega | (simp; omega))) | (simp; done))), rfl⟩ ?_
  rintro i ⟨hi, hok⟩
  have hlo : (((g.marks.take i).map (shM z)).map mD).length = i := by simp; omega
  have hn : (i : Int) < g.marks.length → ∃ m, g.marks[i]? = some m := fun h => some_of_lt (by omega)
  conv => whnf
  repeat' (first
    | ((with_reducible refine Split.of_true ?_); conv => whnf)
    | ((with_reducible refine Split.of_false ?_); conv => whnf)
    | ((with_reducible refine Split.neg ?_))
    | ((with_reducible refine Split.is_true ?_ ?_); decide; conv => whnf)
    | ((with_reducible refine Split.is_false ?_ ?_); decide; conv => whnf)
    | ((with_reducible refine Split.nez (fun _ => ?_) (fun _ => ?_)) <;> conv => whnf)
    | ((with_reducible refine Split.eqz (fun _ => ?_) (fun _ => ?_)) <;> conv => whnf)
    | ((with_reducible refine Split.and ?_))
    | ((with_reducible refine Split.or ?_))
    | ((with_reducible refine Split.streq (fun _ => ?_) (fun _ => ?_)) <;> conv => whnf)
    | ((with_reducible refine Split.dec (fun _ => ?_) (fun _ => ?_)) <;> conv => whnf)
    | ((with_reducible refine Split.mk (fun _ => ?_) (fun _ => ?_)) <;> conv => whnf)
    | ((with_reducible refine Need.mk ?_ ?_); (first | omega | rfl | decide | (refine ⟨?_, ?_⟩ <;> simp <;> omega) | (simp; omega)); conv => whnf)
    | ((with_reducible refine Wr.inr ?_ ?_); (first | omega | (simp; omega)); conv => whnf)
    | ((with_reducible refine Wr.inu ?_ ?_); omega; conv => whnf)
    | (exfalso; first | omega | contradiction))
  · obtain ⟨m, hm⟩ := hn (by omega)
    have hmb := wrongB_false (hG.ok m (List.mem_of_getElem? hm))
    have hck := ev_checkMark m.m (m.l + z)
    by_cases hw : wrongB m.m (m.l + z) = true
    · have hb := bad_at hm hw
      rw [if_pos hw] at hck
      conv => whnf
      repeat' (first
        | ((refine PickE.map i hm (by omega) ?_); conv => whnf)
        | ((with_reducible refine Split.of_true ?_); conv => whnf)
        | ((with_reducible refine Split.of_false ?_); conv => whnf)
        | ((with_reducible refine Split.neg ?_))
        | ((with_reducible refine Split.is_true ?_ ?_); decide; conv => whnf)
        | ((with_reducible refine Split.is_false ?_ ?_); decide; conv => whnf)
        | ((with_reducible refine Split.nez (fun _ => ?_) (fun _ => ?_)) <;> conv => whnf)
        | ((with_reducible refine Split.eqz (fun _ => ?_) (fun _ => ?_)) <;> conv => whnf)
        | ((with_reducible refine Split.and ?_))
        | ((with_reducible refine Split.or ?_))
        | ((with_reducible refine Split.streq (fun _ => ?_) (fun _ => ?_)) <;> conv => whnf)
        | ((with_reducible refine Split.dec (fun _ => ?_) (fun _ => ?_)) <;> conv => whnf)
        | ((with_reducible refine Split.mk (fun _ => ?_) (fun _ => ?_)) <;> conv => whnf)
        | ((with_reducible refine Need.mk ?_ ?_); (first | omega | rfl | decide | (refine ⟨?_, ?_⟩ <;> simp <;> omega) | (simp; omega)); conv => whnf)
        | ((with_reducible refine Wr.inr ?_ ?_); (first | omega | (simp; omega)); conv => whnf)
        | ((with_reducible refine Wr.inu ?_ ?_); omega; conv => whnf)
        | (refine CallK.mk _ (hck) ?_; conv => whnf)
        | (exfalso; first | omega | contradiction))
      simp_all [retOf, shR, shE]; rfl
    · have hw : wrongB m.m (m.l + z) = false := by simpa using hw
      rw [if_neg (by simp [hw])] at hck
      conv => whnf
      repeat' (first
        | ((refine PickE.map i hm (by omega) ?_); conv => whnf)
        | ((with_reducible refine Split.of_true ?_); conv => whnf)
        | ((with_reducible refine Split.of_false ?_); conv => whnf)
        | ((with_reducible refine Split.neg ?_))
        | ((with_reducible refine Split.is_true ?_ ?_); decide; conv => whnf)
        | ((with_reducible refine Split.is_false ?_ ?_); decide; conv => whnf)
        | ((with_reducible refine Split.nez (fun _ => ?_) (fun _ => ?_)) <;> conv => whnf)
        | ((with_reducible refine Split.eqz (fun _ => ?_) (fun _ => ?_)) <;> conv => whnf)
        | ((with_reducible refine Split.and ?_))
        | ((with_reducible refine Split.or ?_))
        | ((with_reducible refine Split.streq (fun _ => ?_) (fun _ => ?_)) <;> conv => whnf)
        | ((with_reducible refine Split.dec (fun _ => ?_) (fun _ => ?_)) <;> conv => whnf)
        | ((with_reducible refine Split.mk (fun _ => ?_) (fun _ => ?_)) <;> conv => whnf)
        | ((with_reducible refine Need.mk ?_ ?_); (first | omega | rfl | decide | (refine ⟨?_, ?_⟩ <;> simp <;> omega) | (simp; omega)); conv => whnf)
        | ((with_reducible refine Wr.inr ?_ ?_); (first | omega | (simp; omega)); conv => whnf)
        | ((with_reducible refine Wr.inu ?_ ?_); omega; conv => whnf)
        | (refine CallK.mk _ (hck) ?_; conv => whnf)
        | (exfalso; first | omega | contradiction))
      refine Again.au (i + 1) ⟨by omega, ?_⟩ (by omega) ?_
      · rw [take_snoc hm]
        intro x hx
        rcases List.mem_append.1 hx with hx | hx
        · exact hok x hx
        · rw [List.mem_singleton.1 hx]; exact hw
      · rw [take_snoc hm, List.map_append, List.map_append]
        exact ⟨by (repeat' (first | exact True.intro | exact rfl | refine ⟨?_, ?_⟩ | (intro h; cases h; done) | (intro h; exact h) | exact map_snoc | (refine own_congr ?_; simp; done) | (refine int_congr ?_; (first | omega | (simp; omega))) | (simp; done))), by (repeat' (first | exact True.intro | exact rfl | refine ⟨?_, ?_⟩ | (intro h; cases h; done) | (intro h; exact h) | exact map_snoc | (refine own_congr ?_; simp; done) | (refine int_congr ?_; (first | omega | (simp; omega))) | (simp; done))), rfl⟩
  · rw [List.take_of_length_le (by omega)] at hok ⊢
    have hb := not_bad hok
    conv => whnf
    repeat' (first
      | ((with_reducible refine Split.of_true ?_); conv => whnf)
      | ((with_reducible refine Split.of_false ?_); conv => whnf)
      | ((with_reducible refine Split.neg ?_))
      | ((with_reducible refine Split.is_true ?_ ?_); decide; conv => whnf)
      | ((with_reducible refine Split.is_false ?_ ?_); decide; conv => whnf)
      | ((with_reducible refine Split.nez (fun _ => ?_) (fun _ => ?_)) <;> conv => whnf)
      | ((with_reducible refine Split.eqz (fun _ => ?_) (fun _ => ?_)) <;> conv => whnf)
      | ((with_reducible refine Split.and ?_))
      | ((with_reducible refine Split.or ?_))
      | ((with_reducible refine Split.streq (fun _ => ?_) (fun _ => ?_)) <;> conv => whnf)
      | ((with_reducible refine Split.dec (fun _ => ?_) (fun _ => ?_)) <;> conv => whnf)
      | ((with_reducible refine Split.mk (fun _ => ?_) (fun _ => ?_)) <;> conv => whnf)
      | ((with_reducible refine Need.mk ?_ ?_); (first | omega | rfl | decide | (refine ⟨?_, ?_⟩ <;> simp <;> omega) | (simp; omega)); conv => whnf)
      | ((with_reducible refine Wr.inr ?_ ?_); (first | omega | (simp; omega)); conv => whnf)
      | ((with_reducible refine Wr.inu ?_ ?_); omega; conv => whnf)
      | (refine CallK.mk _ (ev_withR g (g.marks.map (shM z))) ?_; conv => whnf)
      | (exfalso; first | omega | contradiction))
    have e : shE z g = 0 := by simp [shE, h0, hz, hb]
    rw [shR, if_pos e, e]; rfl
theorem sh_mean : ∀ (l : List Mk) (z t : Int), meanR (l.map (shM z)) t = (meanR l t).map fun x => (x.1 + z * x.2, x.2)
  | [], z, t => rfl
  | [b], z, t => by
    simp only [List.map_cons, List.map_nil, meanR, shM]
    split <;> simp
  | a :: b :: r, z, t => by
    have ih := sh_mean (b :: r) z t
    simp only [List.map_cons, meanR, shM] at ih ⊢
    split
    · simp
    · split
      · simp
      · split
        · simp only [Option.map_some, Option.some.injEq, Prod.mk.injEq, and_true]; grind
        · exact ih
theorem shG_ok {g : Ga} {z : Int} (h : shE z g = 0) : gErr (shG z g) = 0 ∧ gErr g = 0 ∧ -40000 ≤ z ∧ z ≤ 40000 := by
  unfold shE at h
  split at h
  · contradiction
  · rename_i h0
    have h0 : gErr g = 0 := by simpa using h0
    split at h
    · cases h
    · rename_i h1
      simp only [Bool.or_eq_true, not_or, Bool.not_eq_true] at h1
      obtain ⟨n1, n2⟩ := gErr_parts.1 h0
      refine ⟨gErr_parts.2 ⟨n1, n2.err, n2.x, by simpa [shG] using n2.len, ?_, ?_⟩, h0, ?_⟩
      · intro m hm
        obtain ⟨x, hx, rfl⟩ := List.mem_map.1 hm
        have := h1.2
        rw [badSh, List.any_eq_false] at this
        show wrongB x.m (x.l + z) = false
        simpa using this x hx
      · exact List.pairwise_map.2 n2.asc
      · have := h1.1; simp [outsideB] at this; omega
theorem sh_at {g : Ga} {z t : Int} (h : shE z g = 0) : (atS (shG z g) t).2.2 = (atS g t).2.2 ∧ ((atS g t).2.2 = true → (atS (shG z g) t).1 = (atS g t).1 + z ∧ (atS (shG z g) t).2.1 = (atS g t).2.1 + z) := by
  obtain ⟨h1, h2, -⟩ := shG_ok h
  unfold atS meanS
  rw [meanR_eq (good_of h1).asc, meanR_eq (good_of h2).asc]
  have e : (shG z g).marks = g.marks.map (shM z) := rfl
  rw [e, sh_mean]
  cases hm : meanR g.marks t with
  | none => simp [mean3]
  | some x =>
    obtain ⟨n, d⟩ := x
    have hd := meanR_pos (good_of h2).asc hm
    simp only [Option.map_some, mean3, if_true, true_and]
    intro _
    have e1 : (n + z * d) / d = n / d + z := Int.add_mul_ediv_right n z (by omega)
    have e2 : upZ (n + z * d) d = upZ n d + z := by
      unfold upZ
      rw [show -(n + z * d) = -n + (-z) * d by grind, Int.add_mul_ediv_right _ _ (by omega)]
      omega
    rw [e1, e2]
    simp only [shG]
    omega
theorem sh_back {g : Ga} {z : Int} (h : shE z g = 0) : shE (-z) (shG z g) = 0 ∧ shG (-z) (shG z g) = g := by
  obtain ⟨h1, h2, h3⟩ := shG_ok h
  have e : shG (-z) (shG z g) = g := by
    refine ga_ext rfl rfl rfl ?_
    simp only [shG, List.map_map]
    conv => rhs; rw [← List.map_id g.marks]
    exact List.map_congr_left fun m _ => mk_ext rfl (by simp [shM]; omega)
  refine ⟨?_, e⟩
  unfold shE
  rw [if_neg (by simp [h1])]
  have : badSh (-z) (shG z g) = false := by
    rw [badSh, List.any_eq_false]
    intro m hm
    obtain ⟨x, hx, rfl⟩ := List.mem_map.1 hm
    have := (good_of h2).ok x hx
    simp only [shM, show x.l + z + -z = x.l by omega, this]; simp
  rw [this]
  simp [outsideB]; omega
theorem ev_TideShifts (g : Ga) (z t : Int) : Ev Try.prog 5 [gD g, .int .i64 z, .int .i64 t] (.bool true) := by
  have hS := ev_Shift g z
  have hR := ev_ShiftR g z
  have hE := ev_same (shR z g) (shR z g)
  rw [eqB_self] at hE
  by_cases h : shE z g = 0
  · obtain ⟨h1, h2, h3⟩ := shG_ok h
    obtain ⟨b1, b2⟩ := sh_back h
    have hl := (good_of h1).len
    have hl2 := (good_of h2).len
    have hB := ev_Shift (shG z g) (-z)
    rw [show shR (-z) (shG z g) = g by rw [shR, if_pos b1, b2], b1] at hB
    have hE2 := ev_same g g (by omega)
    rw [eqB_self] at hE2
    rw [show shR z g = shG z g by rw [shR, if_pos h]] at hS hR hE
    have hE := hE (by omega)
    rw [h] at hS hR
    have hA := ev_At g t
    have hA2 := ev_At (shG z g) t
    have hk : (AtS (shG z g) t).2.2 = (AtS g t).2.2 ∧ ((AtS g t).2.2 = 0 → (AtS (shG z g) t).1 = (AtS g t).1 + z ∧ (AtS (shG z g) t).2.1 = (AtS g t).2.1 + z ∧ -60000001000 ≤ (AtS g t).1 ∧ (AtS g t).1 ≤ 60000001000 ∧ -60000001000 ≤ (AtS g t).2.1 ∧ (AtS g t).2.1 ≤ 60000001000) := by
      obtain ⟨k1, k2⟩ := sh_at (t := t) h
      have hb := mean_bd (t := t) (good_of h2)
      have he := (good_of h2).err
      unfold AtS
      rw [h1, h2, k1]
      cases ha : (atS g t).2.2 with
      | false => by_cases ho : outsideB t 0 1000000 = true <;> simp [ho]
      | true =>
        by_cases ho : outsideB t 0 1000000 = true
        · simp [ho]
        · obtain ⟨k3, k4⟩ := k2 ha
          simp only [ho, if_true, k3, k4, ne_eq, not_true, if_false, Bool.false_eq_true, true_and, forall_const]
          have q1 := ediv_bd (a := (meanS g t).1) (M := 60000000000) hb.1 (by omega)
          have q2 := ediv_bd (a := -(meanS g t).1) (M := 60000000000) hb.1 (by omega)
          unfold atS at ha ⊢
          split at ha
          · rename_i hq
            simp only [hq, if_true, upZ]
            omega
          · cases ha
    unfold At3D at hA hA2
    generalize AtS g t = x at *
    generalize AtS (shG z g) t = y at *
    obtain ⟨lo, hi, e⟩ := x
    obtain ⟨lo', hi', e'⟩ := y
    dsimp only at hk hA hA2
    obtain ⟨rfl, hk⟩ := hk
    have hneg : (0 : Int) - z = -z := by omega
    rw [← hneg] at hB
    by_cases he : e' = 0
    · obtain ⟨rfl, rfl, hk⟩ := hk he
      refine ev_of_awp tysOk mixed (fn := Try.f5) Try.func5 rfl rfl rfl ?_
      conv => whnf
      repeat' (first
        | ((with_reducible refine Split.of_true ?_); conv => whnf)
        | ((with_reducible refine Split.of_false ?_); conv => whnf)
        | ((with_reducible refine Split.neg ?_))
        | ((with_reducible refine Split.is_true ?_ ?_); decide; conv => whnf)
        | ((with_reducible refine Split.is_false ?_ ?_); decide; conv => whnf)
        | ((with_reducible refine Split.nez (fun _ => ?_) (fun _ => ?_)) <;> conv => whnf)
        | ((with_reducible refine Split.eqz (fun _ => ?_) (fun _ => ?_)) <;> conv => whnf)
        | ((with_reducible refine Split.and ?_))
        | ((with_reducible refine Split.or ?_))
        | ((with_reducible refine Split.streq (fun _ => ?_) (fun _ => ?_)) <;> conv => whnf)
        | ((with_reducible refine Split.dec (fun _ => ?_) (fun _ => ?_)) <;> conv => whnf)
        | ((with_reducible refine Split.mk (fun _ => ?_) (fun _ => ?_)) <;> conv => whnf)
        | ((with_reducible refine Need.mk ?_ ?_); (first | omega | rfl | decide | (refine ⟨?_, ?_⟩ <;> simp <;> omega) | (simp; omega)); conv => whnf)
        | ((with_reducible refine Wr.inr ?_ ?_); (first | omega | (simp; omega)); conv => whnf)
        | ((with_reducible refine Wr.inu ?_ ?_); omega; conv => whnf)
        | (refine CallK.mk _ (ev_awake) ?_; conv => whnf)
        | (refine CallK.mk _ (ev_Short g) ?_; conv => whnf)
        | (refine CallK.mk _ (hS) ?_; conv => whnf)
        | (refine CallK.mk _ (hR) ?_; conv => whnf)
        | (refine CallK.mk _ (hE) ?_; conv => whnf)
        | (refine CallK.mk _ (hB) ?_; conv => whnf)
        | (refine CallK.mk _ (hE2) ?_; conv => whnf)
        | (refine CallK.mk _ (hA) ?_; conv => whnf)
        | (refine CallK.mk _ (hA2) ?_; conv => whnf)
        | (exfalso; first | omega | contradiction))
      all_goals first | rfl | simp [retOf]
    · refine ev_of_awp tysOk mixed (fn := Try.f5) Try.func5 rfl rfl rfl ?_
      conv => whnf
      repeat' (first
        | ((with_reducible refine Split.of_true ?_); conv => whnf)
        | ((with_reducible refine Split.of_false ?_); conv => whnf)
        | ((with_reducible refine Split.neg ?_))
        | ((with_reducible refine Split.is_true ?_ ?_); decide; conv => whnf)
        | ((with_reducible refine Split.is_false ?_ ?_); decide; conv => whnf)
        | ((with_reducible refine Split.nez (fun _ => ?_) (fun _ => ?_)) <;> conv => whnf)
        | ((with_reducible refine Split.eqz (fun _ => ?_) (fun _ => ?_)) <;> conv => whnf)
        | ((with_reducible refine Split.and ?_))
        | ((with_reducible refine Split.or ?_))
        | ((with_reducible refine Split.streq (fun _ => ?_) (fun _ => ?_)) <;> conv => whnf)
        | ((with_reducible refine Split.dec (fun _ => ?_) (fun _ => ?_)) <;> conv => whnf)
        | ((with_reducible refine Split.mk (fun _ => ?_) (fun _ => ?_)) <;> conv => whnf)
        | ((with_reducible refine Need.mk ?_ ?_); (first | omega | rfl | decide | (refine ⟨?_, ?_⟩ <;> simp <;> omega) | (simp; omega)); conv => whnf)
        | ((with_reducible refine Wr.inr ?_ ?_); (first | omega | (simp; omega)); conv => whnf)
        | ((with_reducible refine Wr.inu ?_ ?_); omega; conv => whnf)
        | (refine CallK.mk _ (ev_awake) ?_; conv => whnf)
        | (refine CallK.mk _ (ev_Short g) ?_; conv => whnf)
        | (refine CallK.mk _ (hS) ?_; conv => whnf)
        | (refine CallK.mk _ (hR) ?_; conv => whnf)
        | (refine CallK.mk _ (hE) ?_; conv => whnf)
        | (refine CallK.mk _ (hB) ?_; conv => whnf)
        | (refine CallK.mk _ (hE2) ?_; conv => whnf)
        | (refine CallK.mk _ (hA) ?_; conv => whnf)
        | (refine CallK.mk _ (hA2) ?_; conv => whnf)
        | (exfalso; first | omega | contradiction))
      all_goals first | rfl | simp [retOf]
  · rw [show shR z g = gzG by rw [shR, if_neg h]] at hS hR hE
    have hE := hE (by decide)
    refine ev_of_awp tysOk mixed (fn := Try.f5) Try.func5 rfl rfl rfl ?_
    conv => whnf
    repeat' (first
      | ((with_reducible refine Split.of_true ?_); conv => whnf)
      | ((with_reducible refine Split.of_false ?_); conv => whnf)
      | ((with_reducible refine Split.neg ?_))
      | ((with_reducible refine Split.is_true ?_ ?_); decide; conv => whnf)
      | ((with_reducible refine Split.is_false ?_ ?_); decide; conv => whnf)
      | ((with_reducible refine Split.nez (fun _ => ?_) (fun _ => ?_)) <;> conv => whnf)
      | ((with_reducible refine Split.eqz (fun _ => ?_) (fun _ => ?_)) <;> conv => whnf)
      | ((with_reducible refine Split.and ?_))
      | ((with_reducible refine Split.or ?_))
      | ((with_reducible refine Split.streq (fun _ => ?_) (fun _ => ?_)) <;> conv => whnf)
      | ((with_reducible refine Split.dec (fun _ => ?_) (fun _ => ?_)) <;> conv => whnf)
      | ((with_reducible refine Split.mk (fun _ => ?_) (fun _ => ?_)) <;> conv => whnf)
      | ((with_reducible refine Need.mk ?_ ?_); (first | omega | rfl | decide | (refine ⟨?_, ?_⟩ <;> simp <;> omega) | (simp; omega)); conv => whnf)
      | ((with_reducible refine Wr.inr ?_ ?_); (first | omega | (simp; omega)); conv => whnf)
      | ((with_reducible refine Wr.inu ?_ ?_); omega; conv => whnf)
      | (refine CallK.mk _ (ev_awake) ?_; conv => whnf)
      | (refine CallK.mk _ (ev_Short g) ?_; conv => whnf)
      | (refine CallK.mk _ (hS) ?_; conv => whnf)
      | (refine CallK.mk _ (hR) ?_; conv => whnf)
      | (refine CallK.mk _ (hE) ?_; conv => whnf)
      | (exfalso; first | omega | contradiction))
    all_goals first | rfl | simp [retOf]
end Go.Proofs.Try
