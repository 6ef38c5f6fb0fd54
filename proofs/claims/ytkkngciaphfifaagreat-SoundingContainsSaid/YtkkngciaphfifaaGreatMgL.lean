/- Texts TwC TwD TwE TwF TwG TwH TwI TwJ TwK, joined. -/
import Derived.Test.YtkkngciaphfifaaGreatMgK
import Derived.Test.YtkkngciaphfifaaGreatMgH
section
namespace Go.Proofs.Tryz
open Go Go.Vm
set_option maxRecDepth 20000
set_option maxHeartbeats 2000000
theorem ev_IsName (s : ByteArray) : Ev Tryz.prog 63 [.str s] (.bool (nameB s)) := by
  refine ev_of_awp tysOk mixed (fn := Tryz.f63) Tryz.func63 rfl rfl rfl ?_
  conv => whnf
  repeat' (first
    | ((with_reducible refine Split.of_true ?_); conv => whnf)
    | ((with_reducible refine Split.of_false ?_); conv => whnf)
    | ((with_reducible refine Split.neg ?_))
    | ((with_reducible refine Split.is_true ?_ ?_); decide; conv => whnf)
    | ((with_reducible refine Split.is_false ?_ ?_); decide; conv => whnf)
    | ((with_reducible refine Split.nez (fun _ => ?_) (fun _ => ?_)) <;> conv => whnf)
    | ((with_reducible refine Split.eqz (fun _ => ?_) (fun _ => ?_)) <;> conv => whnf)
    | ((with_reducible refine Split.and ?_))
    | ((with_reducible refine Split.or ?_))
    | ((with_reducible refine Split.streq (fun _ => ?_) (fun _ => ?_)) <;> conv => whnf)
    | ((with_reducible refine Split.dec (fun _ => ?_) (fun _ => ?_)) <;> conv => whnf)
    | ((with_reducible refine Split.mk (fun _ => ?_) (fun _ => ?_)) <;> conv => whnf)
    | ((with_reducible refine NilK.mk (fun _ => ?_) ?_) <;> conv => whnf)
    | ((with_reducible refine AltK.l ?_); (conv => whnf); (with_reducible refine Need.mk ?_ ?_); (first | omega | (refine ⟨?_, ?_⟩ <;> simp <;> omega) | (simp; omega)); conv => whnf)
    | ((with_reducible refine Need.mk ?_ ?_); (first | omega | rfl | decide | (refine ⟨?_, ?_⟩ <;> simp <;> omega) | (simp; omega)); conv => whnf)
    | ((with_reducible refine Wr.quo ?_ ?_ ?_ ?_); omega; omega; omega; conv => whnf)
    | ((with_reducible refine Wr.inr ?_ ?_); (first | omega | (simp; omega)); conv => whnf)
    | ((with_reducible refine Wr.inu ?_ ?_); omega; conv => whnf)
    | (exfalso; first | omega | contradiction))
  · have : s.size = 0 := by omega
    simp_all [retOf, nameB]
  · simp_all [retOf, nameB] <;> omega
  refine LoopK.mk (fun i => i ≤ s.size ∧ ∀ k, k < i → badAt s k = false)
    (fun i => ⟨[(2, .d (.bool false)), (3, .d (.int .i64 i)), (0, .d (.str s))], []⟩)
    (fun i => s.size - i) 0 [] ⟨by omega, fun k h => absurd h (by omega)⟩ (by refine ⟨?_, ?_, rfl⟩ <;> (repeat' (first | exact True.intro | exact rfl | refine ⟨?_, ?_⟩ | (intro h; cases h; done) | (intro h; exact h) | exact map_snoc | (refine own_congr ?_; simp; done) | (refine int_congr ?_; (first | omega | (simp; omega))) | (simp; done)))) ?_
  rintro i ⟨hi, hs⟩
  conv => whnf
  repeat' (first
    | ((with_reducible refine Split.of_true ?_); conv => whnf)
    | ((with_reducible refine Split.of_false ?_); conv => whnf)
    | ((with_reducible refine Split.neg ?_))
    | ((with_reducible refine Split.is_true ?_ ?_); decide; conv => whnf)
    | ((with_reducible refine Split.is_false ?_ ?_); decide; conv => whnf)
    | ((with_reducible refine Split.nez (fun _ => ?_) (fun _ => ?_)) <;> conv => whnf)
    | ((with_reducible refine Split.eqz (fun _ => ?_) (fun _ => ?_)) <;> conv => whnf)
    | ((with_reducible refine Split.and ?_))
    | ((with_reducible refine Split.or ?_))
    | ((with_reducible refine Split.streq (fun _ => ?_) (fun _ => ?_)) <;> conv => whnf)
    | ((with_reducible refine Split.dec (fun _ => ?_) (fun _ => ?_)) <;> conv => whnf)
    | ((with_reducible refine Split.mk (fun _ => ?_) (fun _ => ?_)) <;> conv => whnf)
    | ((with_reducible refine NilK.mk (fun _ => ?_) ?_) <;> conv => whnf)
    | ((with_reducible refine AltK.l ?_); (conv => whnf); (with_reducible refine Need.mk ?_ ?_); (first | omega | (refine ⟨?_, ?_⟩ <;> simp <;> omega) | (simp; omega)); conv => whnf)
    | ((with_reducible refine Need.mk ?_ ?_); (first | omega | rfl | decide | (refine ⟨?_, ?_⟩ <;> simp <;> omega) | (simp; omega)); conv => whnf)
    | ((with_reducible refine Wr.quo ?_ ?_ ?_ ?_); omega; omega; omega; conv => whnf)
    | ((with_reducible refine Wr.inr ?_ ?_); (first | omega | (simp; omega)); conv => whnf)
    | ((with_reducible refine Wr.inu ?_ ?_); omega; conv => whnf)
    | (exfalso; first | omega | contradiction))
  all_goals first
    | exact congrArg D.bool (nameB_bad (i := i) (by omega) (badAt_iff.2 (by omega))).symm
    | (refine Again.mk (i+1) [] ⟨by omega, fun k hk => ?_⟩ (by omega) (by refine ⟨?_, ?_, rfl⟩ <;> (repeat' (first | exact True.intro | exact rfl | refine ⟨?_, ?_⟩ | (intro h; cases h; done) | (intro h; exact h) | exact map_snoc | (refine own_congr ?_; simp; done) | (refine int_congr ?_; (first | omega | (simp; omega))) | (simp; done))))
       rcases Nat.lt_or_ge k i with h | h
       · exact hs k h
       · have : k = i := by omega
         subst this
         exact Bool.eq_false_iff.2 fun h => by have := badAt_iff.1 h; omega)
    | skip
  have : ∀ k, k < s.size → badAt s k = false := fun k hk => hs k (by omega)
  have h1 : s.size ≠ 0 := by omega
  have h2 : s.size ≤ 12 := by omega
  simp [retOf, nameB, h1, h2]
  exact this
def gErr (g : Ga) : Int := if nameB g.name then recErr g else 4
theorem ev_mean1 (m : Mk) (t : Int) (h : 0 ≤ m.m ∧ m.m ≤ 1000000) (ht : -4000000000000000000 ≤ t ∧ t ≤ 4000000000000000000) : Ev Tryz.prog 199 [mD m, .int .i64 t] (.int .i64 (m.m - t)) := by
  refine ev_of_awp tysOk mixed (fn := Tryz.f199) Tryz.func199 rfl rfl rfl ?_
  conv => whnf
  repeat' (first
    | ((with_reducible refine Split.of_true ?_); conv => whnf)
    | ((with_reducible refine Split.of_false ?_); conv => whnf)
    | ((with_reducible refine Split.neg ?_))
    | ((with_reducible refine Split.is_true ?_ ?_); decide; conv => whnf)
    | ((with_reducible refine Split.is_false ?_ ?_); decide; conv => whnf)
    | ((with_reducible refine Split.nez (fun _ => ?_) (fun _ => ?_)) <;> conv => whnf)
    | ((with_reducible refine Split.eqz (fun _ => ?_) (fun _ => ?_)) <;> conv => whnf)
    | ((with_reducible refine Split.and ?_))
    | ((with_reducible refine Split.or ?_))
    | ((with_reducible refine Split.streq (fun _ => ?_) (fun _ => ?_)) <;> conv => whnf)
    | ((with_reducible refine Split.dec (fun _ => ?_) (fun _ => ?_)) <;> conv => whnf)
    | ((with_reducible refine Split.mk (fun _ => ?_) (fun _ => ?_)) <;> conv => whnf)
    | ((with_reducible refine NilK.mk (fun _ => ?_) ?_) <;> conv => whnf)
    | ((with_reducible refine AltK.l ?_); (conv => whnf); (with_reducible refine Need.mk ?_ ?_); (first | omega | (refine ⟨?_, ?_⟩ <;> simp <;> omega) | (simp; omega)); conv => whnf)
    | ((with_reducible refine Need.mk ?_ ?_); (first | omega | rfl | decide | (refine ⟨?_, ?_⟩ <;> simp <;> omega) | (simp; omega)); conv => whnf)
    | ((with_reducible refine Wr.quo ?_ ?_ ?_ ?_); omega; omega; omega; conv => whnf)
    | ((with_reducible refine Wr.inr ?_ ?_); (first | omega | (simp; omega)); conv => whnf)
    | ((with_reducible refine Wr.inu ?_ ?_); omega; conv => whnf)
    | (exfalso; first | omega | contradiction))
  rfl
def foundB (l : List Mk) (p : Nat) (t : Int) : Bool := match l[p]? with
  | some m => decide (m.m = t)
  | none => false
theorem ev_Bin (l : List Mk) (t : Int) (p : Nat) (hl : l.length ≤ 1000000) (hb : ∀ m ∈ l, 0 ≤ m.m ∧ m.m ≤ 1000000) (ht : -4000000000000000000 ≤ t ∧ t ≤ 4000000000000000000) (hp : p ≤ l.length)
    (h : ∀ (k : Nat) m, l[k]? = some m → (k < p → m.m < t) ∧ (p ≤ k → t ≤ m.m)) : Ev Tryz.prog 198 [.sl 2 (l.map mD), .int .i64 t, .fn 199 []] (.tup [.int .i64 p, .bool (foundB l p t)]) := by
  refine ev_of_awp tysOk mixed (fn := Tryz.f198) Tryz.func198 rfl rfl rfl ?_
  have hlen : (l.map mD).length = l.length := List.length_map _
  conv => whnf
  repeat' (first
    | ((with_reducible refine Split.of_true ?_); conv => whnf)
    | ((with_reducible refine Split.of_false ?_); conv => whnf)
    | ((with_reducible refine Split.neg ?_))
    | ((with_reducible refine Split.is_true ?_ ?_); decide; conv => whnf)
    | ((with_reducible refine Split.is_false ?_ ?_); decide; conv => whnf)
    | ((with_reducible refine Split.nez (fun _ => ?_) (fun _ => ?_)) <;> conv => whnf)
    | ((with_reducible refine Split.eqz (fun _ => ?_) (fun _ => ?_)) <;> conv => whnf)
    | ((with_reducible refine Split.and ?_))
    | ((with_reducible refine Split.or ?_))
    | ((with_reducible refine Split.streq (fun _ => ?_) (fun _ => ?_)) <;> conv => whnf)
    | ((with_reducible refine Split.dec (fun _ => ?_) (fun _ => ?_)) <;> conv => whnf)
    | ((with_reducible refine Split.mk (fun _ => ?_) (fun _ => ?_)) <;> conv => whnf)
    | ((with_reducible refine NilK.mk (fun _ => ?_) ?_) <;> conv => whnf)
    | ((with_reducible refine AltK.l ?_); (conv => whnf); (with_reducible refine Need.mk ?_ ?_); (first | omega | (refine ⟨?_, ?_⟩ <;> simp <;> omega) | (simp; omega)); conv => whnf)
    | ((with_reducible refine Need.mk ?_ ?_); (first | omega | rfl | decide | (refine ⟨?_, ?_⟩ <;> simp <;> omega) | (simp; omega)); conv => whnf)
    | ((with_reducible refine Wr.quo ?_ ?_ ?_ ?_); omega; omega; omega; conv => whnf)
    | ((with_reducible refine Wr.inr ?_ ?_); (first | omega | (simp; omega)); conv => whnf)
    | ((with_reducible refine Wr.inu ?_ ?_); omega; conv => whnf)
    | (exfalso; first | omega | contradiction))
  refine LoopK.mk (fun ij : Nat × Nat => ij.1 ≤ p ∧ p ≤ ij.2 ∧ ij.2 ≤ l.length)
    (fun ij => ⟨[(0, .d (.sl 2 (l.map mD))), (1, .d (.int .i64 t)), (2, .d (.fn 199 [])), (6, .d (.int .i64 0)), (7, .d (.bool false)),
      (8, .d (.int .i64 (l.map mD).length)), (9, .d (.int .i64 ij.1)), (10, .d (.int .i64 ij.2))], []⟩)
    (fun ij => ij.2 - ij.1) (0, (l.map mD).length) [] ⟨by omega, by omega, by omega⟩ (by refine ⟨?_, ?_, rfl⟩ <;> (repeat' (first | exact True.intro | exact rfl | refine ⟨?_, ?_⟩ | (intro h; cases h; done) | (intro h; exact h) | exact map_snoc | (refine own_congr ?_; simp; done) | (refine int_congr ?_; (first | omega | (simp; omega))) | (simp; done)))) ?_
  rintro ⟨i, j⟩ ⟨h1, h2, h3⟩
  dsimp only at h1 h2 h3 ⊢
  have hz : shrZ ((i : Int) + j) 1 = ((i + j) / 2 : Nat) := by rw [shrZ_one]; omega
  have hlt : (i : Int) < j → (i + j) / 2 < l.length := fun h => by omega
  conv => whnf
  repeat' (first
    | ((with_reducible refine Split.of_true ?_); conv => whnf)
    | ((with_reducible refine Split.of_false ?_); conv => whnf)
    | ((with_reducible refine Split.neg ?_))
    | ((with_reducible refine Split.is_true ?_ ?_); decide; conv => whnf)
    | ((with_reducible refine Split.is_false ?_ ?_); decide; conv => whnf)
    | ((with_reducible refine Split.nez (fun _ => ?_) (fun _ => ?_)) <;> conv => whnf)
    | ((with_reducible refine Split.eqz (fun _ => ?_) (fun _ => ?_)) <;> conv => whnf)
    | ((with_reducible refine Split.and ?_))
    | ((with_reducible refine Split.or ?_))
    | ((with_reducible refine Split.streq (fun _ => ?_) (fun _ => ?_)) <;> conv => whnf)
    | ((with_reducible refine Split.dec (fun _ => ?_) (fun _ => ?_)) <;> conv => whnf)
    | ((with_reducible refine Split.mk (fun _ => ?_) (fun _ => ?_)) <;> conv => whnf)
    | ((with_reducible refine NilK.mk (fun _ => ?_) ?_) <;> conv => whnf)
    | ((with_reducible refine AltK.l ?_); (conv => whnf); (with_reducible refine Need.mk ?_ ?_); (first | omega | (refine ⟨?_, ?_⟩ <;> simp <;> omega) | (simp; omega)); conv => whnf)
    | ((with_reducible refine Need.mk ?_ ?_); (first | omega | rfl | decide | (refine ⟨?_, ?_⟩ <;> simp <;> omega) | (simp; omega)); conv => whnf)
    | ((with_reducible refine Wr.quo ?_ ?_ ?_ ?_); omega; omega; omega; conv => whnf)
    | ((with_reducible refine Wr.inr ?_ ?_); (first | omega | (simp; omega)); conv => whnf)
    | ((with_reducible refine Wr.inu ?_ ?_); omega; conv => whnf)
    | (exfalso; first | omega | contradiction))
  · have hlt := hlt (by assumption)
    obtain ⟨m, hm⟩ := some_of_lt hlt
    have hmb := hb m (List.mem_of_getElem? hm)
    have hc := h _ m hm
    rw [hz]
    have hq : i ≤ (i + j) / 2 ∧ (i + j) / 2 < j := by omega
    generalize (i + j) / 2 = q at *
    refine PickE.map q hm (by omega) ?_
    conv => whnf
    repeat' (first
      | ((with_reducible refine Split.of_true ?_); conv => whnf)
      | ((with_reducible refine Split.of_false ?_); conv => whnf)
      | ((with_reducible refine Split.neg ?_))
      | ((with_reducible refine Split.is_true ?_ ?_); decide; conv => whnf)
      | ((with_reducible refine Split.is_false ?_ ?_); decide; conv => whnf)
      | ((with_reducible refine Split.nez (fun _ => ?_) (fun _ => ?_)) <;> conv => whnf)
      | ((with_reducible refine Split.eqz (fun _ => ?_) (fun _ => ?_)) <;> conv => whnf)
      | ((with_reducible refine Split.and ?_))
      | ((with_reducible refine Split.or ?_))
      | ((with_reducible refine Split.streq (fun _ => ?_) (fun _ => ?_)) <;> conv => whnf)
      | ((with_reducible refine Split.dec (fun _ => ?_) (fun _ => ?_)) <;> conv => whnf)
      | ((with_reducible refine Split.mk (fun _ => ?_) (fun _ => ?_)) <;> conv => whnf)
      | ((with_reducible refine NilK.mk (fun _ => ?_) ?_) <;> conv => whnf)
      | ((with_reducible refine AltK.l ?_); (conv => whnf); (with_reducible refine Need.mk ?_ ?_); (first | omega | (refine ⟨?_, ?_⟩ <;> simp <;> omega) | (simp; omega)); conv => whnf)
      | ((with_reducible refine Need.mk ?_ ?_); (first | omega | rfl | decide | (refine ⟨?_, ?_⟩ <;> simp <;> omega) | (simp; omega)); conv => whnf)
      | ((with_reducible refine Wr.quo ?_ ?_ ?_ ?_); omega; omega; omega; conv => whnf)
      | ((with_reducible refine Wr.inr ?_ ?_); (first | omega | (simp; omega)); conv => whnf)
      | ((with_reducible refine Wr.inu ?_ ?_); omega; conv => whnf)
      | ((with_reducible refine AltK.l ?_); (conv => whnf); (first | (refine CallK.mk _ (ev_mean1 m t hmb ht) ?_)); conv => whnf)
      | (exfalso; first | omega | contradiction))
    · exact Again.mk (q + 1, j) [] ⟨by omega, by omega, by omega⟩ (by dsimp only; omega) (by refine ⟨?_, ?_, rfl⟩ <;> (repeat' (first | exact True.intro | exact rfl | refine ⟨?_, ?_⟩ | (intro h; cases h; done) | (intro h; exact h) | exact map_snoc | (refine own_congr ?_; simp; done) | (refine int_congr ?_; (first | omega | (simp; omega))) | (simp; done))))
    · exact Again.mk (i, q) [] ⟨by omega, by omega, by omega⟩ (by dsimp only; omega) (by refine ⟨?_, ?_, rfl⟩ <;> (repeat' (first | exact True.intro | exact rfl | refine ⟨?_, ?_⟩ | (intro h; cases h; done) | (intro h; exact h) | exact map_snoc | (refine own_congr ?_; simp; done) | (refine int_congr ?_; (first | omega | (simp; omega))) | (simp; done))))
  · have e : i = p := by omega
    subst e
    obtain ⟨m, hm⟩ := some_of_lt (l := l) (i := i) (by omega)
    have hmb := hb m (List.mem_of_getElem? hm)
    refine PickE.map i hm (by omega) ?_
    conv => whnf
    repeat' (first
      | ((with_reducible refine Split.of_true ?_); conv => whnf)
      | ((with_reducible refine Split.of_false ?_); conv => whnf)
      | ((with_reducible refine Split.neg ?_))
      | ((with_reducible refine Split.is_true ?_ ?_); decide; conv => whnf)
      | ((with_reducible refine Split.is_false ?_ ?_); decide; conv => whnf)
      | ((with_reducible refine Split.nez (fun _ => ?_) (fun _ => ?_)) <;> conv => whnf)
      | ((with_reducible refine Split.eqz (fun _ => ?_) (fun _ => ?_)) <;> conv => whnf)
      | ((with_reducible refine Split.and ?_))
      | ((with_reducible refine Split.or ?_))
      | ((with_reducible refine Split.streq (fun _ => ?_) (fun _ => ?_)) <;> conv => whnf)
      | ((with_reducible refine Split.dec (fun _ => ?_) (fun _ => ?_)) <;> conv => whnf)
      | ((with_reducible refine Split.mk (fun _ => ?_) (fun _ => ?_)) <;> conv => whnf)
      | ((with_reducible refine NilK.mk (fun _ => ?_) ?_) <;> conv => whnf)
      | ((with_reducible refine AltK.l ?_); (conv => whnf); (with_reducible refine Need.mk ?_ ?_); (first | omega | (refine ⟨?_, ?_⟩ <;> simp <;> omega) | (simp; omega)); conv => whnf)
      | ((with_reducible refine Need.mk ?_ ?_); (first | omega | rfl | decide | (refine ⟨?_, ?_⟩ <;> simp <;> omega) | (simp; omega)); conv => whnf)
      | ((with_reducible refine Wr.quo ?_ ?_ ?_ ?_); omega; omega; omega; conv => whnf)
      | ((with_reducible refine Wr.inr ?_ ?_); (first | omega | (simp; omega)); conv => whnf)
      | ((with_reducible refine Wr.inu ?_ ?_); omega; conv => whnf)
      | ((with_reducible refine AltK.l ?_); (conv => whnf); (first | (refine CallK.mk _ (ev_mean1 m t hmb ht) ?_)); conv => whnf)
      | (exfalso; first | omega | contradiction))
    have e : (m.m - t == 0) = decide (m.m = t) := by rw [Bool.eq_iff_iff]; simp; omega
    simp only [retOf, foundB, hm, e]
  · have e : i = p := by omega
    subst e
    have hm : l[i]? = none := List.getElem?_eq_none (by omega)
    simp only [retOf, foundB, hm]
theorem mul_bd {x y X Y : Int} (hx : -X ≤ x ∧ x ≤ X) (hy : -Y ≤ y ∧ y ≤ Y) : -(X * Y) ≤ x * y ∧ x * y ≤ X * Y := by
  have h : (x * y).natAbs ≤ X.natAbs * Y.natAbs := by rw [Int.natAbs_mul]; exact Nat.mul_le_mul (by omega) (by omega)
  have e : ((X.natAbs * Y.natAbs : Nat) : Int) = X * Y := by
    rw [Int.natCast_mul, Int.natAbs_of_nonneg (by omega), Int.natAbs_of_nonneg (by omega)]
  omega
/-- The mean level at a minute, before mark p (the first one at it or behind it). -/
def meanAt (l : List Mk) (p : Nat) (t : Int) : Int × Int × Bool := match l[p]? with
  | some b => if b.m = t then (b.l, 1, true) else match p with
    | 0 => (0, 1, false)
    | q + 1 => match l[q]? with
      | some a => (a.l * (b.m - a.m) + (b.l - a.l) * (t - a.m), b.m - a.m, true)
      | none => (0, 1, false)
  | none => (0, 1, false)
def m3D (x : Int × Int × Bool) : D := .tup [.int .i64 x.1, .int .i64 x.2.1, .bool x.2.2]
theorem ev_mean (g : Ga) (t : Int) (p : Nat) (hl : g.marks.length ≤ 400) (hb : ∀ m ∈ g.marks, wrongB m.m m.l = false) (ht : 0 ≤ t ∧ t ≤ 1000000) (hp : p ≤ g.marks.length)
    (h : ∀ (k : Nat) m, g.marks[k]? = some m → (k < p → m.m < t) ∧ (p ≤ k → t ≤ m.m)) : Ev Tryz.prog 184 [gD g, .int .i64 t] (m3D (meanAt g.marks p t)) := by
  have hlen : (g.marks.map mD).length = g.marks.length := List.length_map _
  have hw : ∀ m ∈ g.marks, 0 ≤ m.m ∧ m.m ≤ 1000000 ∧ -20000 ≤ m.l ∧ m.l ≤ 20000 := by
    intro m hm
    have := hb m hm
    simp only [wrongB, outsideB, Bool.or_eq_false_iff, decide_eq_false_iff_not] at this
    omega
  have hB := ev_Bin g.marks t p (by omega) (fun m hm => by have := hw m hm; omega) (by omega) hp h
  refine ev_of_awp tysOk mixed (fn := Tryz.f184) Tryz.func184 rfl rfl rfl ?_
  have hfb : ∀ b, g.marks[p]? = some b → foundB g.marks p t = decide (b.m = t) := fun b hb => by simp only [foundB, hb]
  have hfn : g.marks[p]? = none → foundB g.marks p t = false := fun hb => by simp only [foundB, hb]
  conv => whnf
  repeat' (first
    | ((with_reducible refine Split.of_true ?_); conv => whnf)
    | ((with_reducible refine Split.of_false ?_); conv => whnf)
    | ((with_reducible refine Split.neg ?_))
    | ((with_reducible refine Split.is_true ?_ ?_); decide; conv => whnf)
    | ((with_reducible refine Split.is_false ?_ ?_); decide; conv => whnf)
    | ((with_reducible refine Split.nez (fun _ => ?_) (fun _ => ?_)) <;> conv => whnf)
    | ((with_reducible refine Split.eqz (fun _ => ?_) (fun _ => ?_)) <;> conv => whnf)
    | ((with_reducible refine Split.and ?_))
    | ((with_reducible refine Split.or ?_))
    | ((with_reducible refine Split.streq (fun _ => ?_) (fun _ => ?_)) <;> conv => whnf)
    | ((with_reducible refine Split.dec (fun _ => ?_) (fun _ => ?_)) <;> conv => whnf)
    | ((with_reducible refine Split.mk (fun _ => ?_) (fun _ => ?_)) <;> conv => whnf)
    | ((with_reducible refine NilK.mk (fun _ => ?_) ?_) <;> conv => whnf)
    | ((with_reducible refine AltK.l ?_); (conv => whnf); (with_reducible refine Need.mk ?_ ?_); (first | omega | (refine ⟨?_, ?_⟩ <;> simp <;> omega) | (simp; omega)); conv => whnf)
    | ((with_reducible refine Need.mk ?_ ?_); (first | omega | rfl | decide | (refine ⟨?_, ?_⟩ <;> simp <;> omega) | (simp; omega)); conv => whnf)
    | ((with_reducible refine Wr.quo ?_ ?_ ?_ ?_); omega; omega; omega; conv => whnf)
    | ((with_reducible refine Wr.inr ?_ ?_); (first | omega | (simp; omega)); conv => whnf)
    | ((with_reducible refine Wr.inu ?_ ?_); omega; conv => whnf)
    | ((with_reducible refine AltK.l ?_); (conv => whnf); (first | (refine CallK.mk _ (hB) ?_)); conv => whnf)
    | (exfalso; first | omega | contradiction))
  · cases hm : g.marks[p]? with
    | none => rw [hfn hm] at *; simp_all
    | some b =>
      have hbt : b.m = t := by simp_all
      refine PickE.map p hm (by omega) ?_
      conv => whnf
      repeat' (first
        | ((with_reducible refine Split.of_true ?_); conv => whnf)
        | ((with_reducible refine Split.of_false ?_); conv => whnf)
        | ((with_reducible refine Split.neg ?_))
        | ((with_reducible refine Split.is_true ?_ ?_); decide; conv => whnf)
        | ((with_reducible refine Split.is_false ?_ ?_); decide; conv => whnf)
        | ((with_reducible refine Split.nez (fun _ => ?_) (fun _ => ?_)) <;> conv => whnf)
        | ((with_reducible refine Split.eqz (fun _ => ?_) (fun _ => ?_)) <;> conv => whnf)
        | ((with_reducible refine Split.and ?_))
        | ((with_reducible refine Split.or ?_))
        | ((with_reducible refine Split.streq (fun _ => ?_) (fun _ => ?_)) <;> conv => whnf)
        | ((with_reducible refine Split.dec (fun _ => ?_) (fun _ => ?_)) <;> conv => whnf)
        | ((with_reducible refine Split.mk (fun _ => ?_) (fun _ => ?_)) <;> conv => whnf)
        | ((with_reducible refine NilK.mk (fun _ => ?_) ?_) <;> conv => whnf)
        | ((with_reducible refine AltK.l ?_); (conv => whnf); (with_reducible refine Need.mk ?_ ?_); (first | omega | (refine ⟨?_, ?_⟩ <;> simp <;> omega) | (simp; omega)); conv => whnf)
        | ((with_reducible refine Need.mk ?_ ?_); (first | omega | rfl | decide | (refine ⟨?_, ?_⟩ <;> simp <;> omega) | (simp; omega)); conv => whnf)
        | ((with_reducible refine Wr.quo ?_ ?_ ?_ ?_); omega; omega; omega; conv => whnf)
        | ((with_reducible refine Wr.inr ?_ ?_); (first | omega | (simp; omega)); conv => whnf)
        | ((with_reducible refine Wr.inu ?_ ?_); omega; conv => whnf)
        | (exfalso; first | omega | contradiction))
      simp only [retOf, meanAt, hm, hbt, if_true, m3D]
  · have hp0 : p = 0 := by omega
    subst hp0
    cases hm : g.marks[0]? with
    | none => simp only [retOf, meanAt, hm, m3D]
    | some b =>
      have hbt : b.m ≠ t := by simp_all
      simp only [retOf, meanAt, hm, hbt, if_false, m3D]
  · have hm : g.marks[p]? = none := List.getElem?_eq_none (by omega)
    simp only [retOf, meanAt, hm, m3D]
  · obtain ⟨q, rfl⟩ : ∃ q, p = q + 1 := ⟨p - 1, by omega⟩
    obtain ⟨b, hm⟩ := some_of_lt (l := g.marks) (i := q + 1) (by omega)
    obtain ⟨a, hma⟩ := some_of_lt (l := g.marks) (i := q) (by omega)
    have hbt : b.m ≠ t := by simp_all
    have wa := hw a (List.mem_of_getElem? hma)
    have wb := hw b (List.mem_of_getElem? hm)
    have ha := (h q a hma).1 (by omega)
    have hb' := (h (q+1) b hm).2 (by omega)
    have e1 := mul_bd (x := a.l) (y := b.m - a.m) (X := 20000) (Y := 1000000) (by omega) (by omega)
    have e2 := mul_bd (x := b.l - a.l) (y := t - a.m) (X := 40000) (Y := 1000000) (by omega) (by omega)
    refine PickE.map q hma (by omega) ?_
    conv => whnf
    repeat' (first
      | ((with_reducible refine Split.of_true ?_); conv => whnf)
      | ((with_reducible refine Split.of_false ?_); conv => whnf)
      | ((with_reducible refine Split.neg ?_))
      | ((with_reducible refine Split.is_true ?_ ?_); decide; conv => whnf)
      | ((with_reducible refine Split.is_false ?_ ?_); decide; conv => whnf)
      | ((with_reducible refine Split.nez (fun _ => ?_) (fun _ => ?_)) <;> conv => whnf)
      | ((with_reducible refine Split.eqz (fun _ => ?_) (fun _ => ?_)) <;> conv => whnf)
      | ((with_reducible refine Split.and ?_))
      | ((with_reducible refine Split.or ?_))
      | ((with_reducible refine Split.streq (fun _ => ?_) (fun _ => ?_)) <;> conv => whnf)
      | ((with_reducible refine Split.dec (fun _ => ?_) (fun _ => ?_)) <;> conv => whnf)
      | ((with_reducible refine Split.mk (fun _ => ?_) (fun _ => ?_)) <;> conv => whnf)
      | ((with_reducible refine NilK.mk (fun _ => ?_) ?_) <;> conv => whnf)
      | ((with_reducible refine AltK.l ?_); (conv => whnf); (with_reducible refine Need.mk ?_ ?_); (first | omega | (refine ⟨?_, ?_⟩ <;> simp <;> omega) | (simp; omega)); conv => whnf)
      | ((with_reducible refine Need.mk ?_ ?_); (first | omega | rfl | decide | (refine ⟨?_, ?_⟩ <;> simp <;> omega) | (simp; omega)); conv => whnf)
      | ((with_reducible refine Wr.quo ?_ ?_ ?_ ?_); omega; omega; omega; conv => whnf)
      | ((with_reducible refine Wr.inr ?_ ?_); (first | omega | (simp; omega)); conv => whnf)
      | ((with_reducible refine Wr.inu ?_ ?_); omega; conv => whnf)
      | (exfalso; first | omega | contradiction))
    refine PickE.map (q + 1) hm (by omega) ?_
    conv => whnf
    repeat' (first
      | ((with_reducible refine Split.of_true ?_); conv => whnf)
      | ((with_reducible refine Split.of_false ?_); conv => whnf)
      | ((with_reducible refine Split.neg ?_))
      | ((with_reducible refine Split.is_true ?_ ?_); decide; conv => whnf)
      | ((with_reducible refine Split.is_false ?_ ?_); decide; conv => whnf)
      | ((with_reducible refine Split.nez (fun _ => ?_) (fun _ => ?_)) <;> conv => whnf)
      | ((with_reducible refine Split.eqz (fun _ => ?_) (fun _ => ?_)) <;> conv => whnf)
      | ((with_reducible refine Split.and ?_))
      | ((with_reducible refine Split.or ?_))
      | ((with_reducible refine Split.streq (fun _ => ?_) (fun _ => ?_)) <;> conv => whnf)
      | ((with_reducible refine Split.dec (fun _ => ?_) (fun _ => ?_)) <;> conv => whnf)
      | ((with_reducible refine Split.mk (fun _ => ?_) (fun _ => ?_)) <;> conv => whnf)
      | ((with_reducible refine NilK.mk (fun _ => ?_) ?_) <;> conv => whnf)
      | ((with_reducible refine AltK.l ?_); (conv => whnf); (with_reducible refine Need.mk ?_ ?_); (first | omega | (refine ⟨?_, ?_⟩ <;> simp <;> omega) | (simp; omega)); conv => whnf)
      | ((with_reducible refine Need.mk ?_ ?_); (first | omega | rfl | decide | (refine ⟨?_, ?_⟩ <;> simp <;> omega) | (simp; omega)); conv => whnf)
      | ((with_reducible refine Wr.quo ?_ ?_ ?_ ?_); omega; omega; omega; conv => whnf)
      | ((with_reducible refine Wr.inr ?_ ?_); (first | omega | (simp; omega)); conv => whnf)
      | ((with_reducible refine Wr.inu ?_ ?_); omega; conv => whnf)
      | (exfalso; first | omega | contradiction))
    simp only [retOf, meanAt, hm, hma, hbt, if_false, m3D]
end Go.Proofs.Tryz
end

section
namespace Go.Proofs.Tryz
open Go Go.Vm
set_option maxRecDepth 20000
set_option maxHeartbeats 2000000
def posF (l : List Mk) (t : Int) : Nat := (l.takeWhile fun m => decide (m.m < t)).length
theorem posF_le (l : List Mk) (t : Int) : posF l t ≤ l.length := (List.takeWhile_prefix _).length_le
theorem markErr_zero : ∀ (l : List Mk) (p : Option Mk), markErr p l = 0 → (∀ m ∈ l, wrongB m.m m.l = false) ∧ l.Pairwise (fun a b => a.m < b.m) ∧ ∀ q, p = some q → ∀ m ∈ l, q.m < m.m
  | [], p, _ => ⟨(fun m h => (by cases h)), .nil, (fun q _ m h => (by cases h))⟩
  | m :: r, p, h => by
    simp only [markErr] at h
    split at h
    · cases h
    · rename_i hw
      have hw : wrongB m.m m.l = false := by simpa using hw
      have key : markErr (some m) r = 0 ∧ ∀ q, p = some q → q.m < m.m := by
        cases p with
        | none => exact ⟨h, (fun q hq => (by cases hq))⟩
        | some q0 =>
          simp only at h
          split at h
          · cases h
          · rename_i hlt
            exact ⟨h, fun q hq => by cases hq; omega⟩
      obtain ⟨h1, h2, h3⟩ := markErr_zero r (some m) key.1
      refine ⟨fun x hx => ?_, List.pairwise_cons.2 ⟨h3 m rfl, h2⟩, fun q hq x hx => ?_⟩
      · cases hx with
        | head => exact hw
        | tail _ hx => exact h1 x hx
      · cases hx with
        | head => exact key.2 q hq
        | tail _ hx => have := key.2 q hq; have := h3 m rfl x hx; omega
theorem posF_spec {t : Int} : ∀ {l : List Mk}, l.Pairwise (fun a b => a.m < b.m) → ∀ (k : Nat) m, l[k]? = some m → (k < posF l t → m.m < t) ∧ (posF l t ≤ k → t ≤ m.m)
  | [], _, k, m, h => by simp at h
  | a :: r, hp, k, m, h => by
    obtain ⟨h1, h2⟩ := List.pairwise_cons.1 hp
    by_cases ha : a.m < t
    · have e : posF (a :: r) t = posF r t + 1 := by simp [posF, ha]
      rw [e]
      cases k with
      | zero => simp only [List.getElem?_cons_zero, Option.some.injEq] at h; subst h; exact ⟨fun _ => ha, fun h => by omega⟩
      | succ k =>
        have := posF_spec (t := t) h2 k m (by simpa using h)
        exact ⟨fun h => this.1 (by omega), fun h => this.2 (by omega)⟩
    · have e : posF (a :: r) t = 0 := by simp [posF, ha]
      rw [e]
      refine ⟨fun h => by omega, fun _ => ?_⟩
      cases k with
      | zero => simp only [List.getElem?_cons_zero, Option.some.injEq] at h; subst h; omega
      | succ k =>
        have := h1 m (List.mem_of_getElem? (i := k) (by simpa using h))
        omega
structure Good (g : Ga) : Prop where
  err : 0 ≤ g.err ∧ g.err ≤ 1000
  x : -1000000 ≤ g.x ∧ g.x ≤ 1000000
  len : g.marks.length ≤ 400
  ok : ∀ m ∈ g.marks, wrongB m.m m.l = false
  asc : g.marks.Pairwise fun a b => a.m < b.m
theorem wrongB_false {m : Mk} (h : wrongB m.m m.l = false) : 0 ≤ m.m ∧ m.m ≤ 1000000 ∧ -20000 ≤ m.l ∧ m.l ≤ 20000 := by
  simp only [wrongB, outsideB, Bool.or_eq_false_iff, decide_eq_false_iff_not] at h
  omega
theorem good_of_rec {g : Ga} (h : recErr g = 0) : Good g := by
  unfold recErr at h
  split at h
  · cases h
  · rename_i h1
    split at h
    · cases h
    · obtain ⟨a, b, -⟩ := markErr_zero _ _ h
      simp only [outsideB, Bool.or_eq_true, decide_eq_true_eq, not_or] at h1
      exact ⟨by omega, by omega, by omega, a, b⟩
theorem good_of {g : Ga} (h : gErr g = 0) : Good g := by
  unfold gErr at h
  split at h
  · exact good_of_rec h
  · cases h
def meanS (g : Ga) (t : Int) : Int × Int × Bool := meanAt g.marks (posF g.marks t) t
theorem ev_meanS {g : Ga} {t : Int} (h : Good g) (ht : 0 ≤ t ∧ t ≤ 1000000) : Ev Tryz.prog 184 [gD g, .int .i64 t] (m3D (meanS g t)) :=
  ev_mean g t _ h.len h.ok ht (posF_le _ _) (posF_spec h.asc)
theorem mean_bd {g : Ga} {t : Int} (h : Good g) : 0 < (meanS g t).2.1 ∧ (meanS g t).2.1 ≤ 1000000 ∧ -60000000000 ≤ (meanS g t).1 ∧ (meanS g t).1 ≤ 60000000000 := by
  have hp := posF_spec (t := t) h.asc
  unfold meanS
  generalize posF g.marks t = p at hp
  unfold meanAt
  split
  · rename_i b hb
    have wb := wrongB_false (h.ok b (List.mem_of_getElem? hb))
    split
    · simp only; omega
    · split
      · simp only; omega
      · rename_i q' q
        split
        · rename_i a ha
          have wa := wrongB_false (h.ok a (List.mem_of_getElem? ha))
          have h1 := (hp q a ha).1 (by omega)
          have h2 := (hp (q+1) b hb).2 (by omega)
          have e1 := mul_bd (x := a.l) (y := b.m - a.m) (X := 20000) (Y := 1000000) (by omega) (by omega)
          have e2 := mul_bd (x := b.l - a.l) (y := t - a.m) (X := 40000) (Y := 1000000) (by omega) (by omega)
          simp only
          omega
        · simp only; omega
  · simp only; omega
def ivD (lo hi : Int) : D := .agg [.int .i64 lo, .int .i64 hi]
def atS (g : Ga) (t : Int) : Int × Int × Bool := if (meanS g t).2.2 then ((meanS g t).1 / (meanS g t).2.1 - g.err, upZ (meanS g t).1 (meanS g t).2.1 + g.err, true) else (0, 0, false)
def at3D (x : Int × Int × Bool) : D := .tup [ivD x.1 x.2.1, .bool x.2.2]
theorem ev_at {g : Ga} {t : Int} (h : Good g) (ht : 0 ≤ t ∧ t ≤ 1000000) : Ev Tryz.prog 149 [gD g, .int .i64 t] (at3D (atS g t)) := by
  have hm := ev_meanS h ht
  have hb := mean_bd (t := t) h
  have he := h.err
  unfold atS
  generalize meanS g t = x at hm hb
  obtain ⟨n, d, ok⟩ := x
  dsimp only at hb ⊢
  have q1 := ediv_bd (a := n) (M := 60000000000) hb.1 (by omega)
  have q2 := ediv_bd (a := -n) (M := 60000000000) hb.1 (by omega)
  have d1 := ev_down n d hb.1 (by omega)
  have d2 := ev_up n d hb.1 (by omega)
  unfold upZ at d2 ⊢
  generalize n / d = u at *
  generalize -n / d = v at *
  refine ev_of_awp tysOk mixed (fn := Tryz.f149) Tryz.func149 rfl rfl rfl ?_
  conv => whnf
  repeat' (first
    | ((with_reducible refine Split.of_true ?_); conv => whnf)
    | ((with_reducible refine Split.of_false ?_); conv => whnf)
    | ((with_reducible refine Split.neg ?_))
    | ((with_reducible refine Split.is_true ?_ ?_); decide; conv => whnf)
    | ((with_reducible refine Split.is_false ?_ ?_); decide; conv => whnf)
    | ((with_reducible refine Split.nez (fun _ => ?_) (fun _ => ?_)) <;> conv => whnf)
    | ((with_reducible refine Split.eqz (fun _ => ?_) (fun _ => ?_)) <;> conv => whnf)
    | ((with_reducible refine Split.and ?_))
    | ((with_reducible refine Split.or ?_))
    | ((with_reducible refine Split.streq (fun _ => ?_) (fun _ => ?_)) <;> conv => whnf)
    | ((with_reducible refine Split.dec (fun _ => ?_) (fun _ => ?_)) <;> conv => whnf)
    | ((with_reducible refine Split.mk (fun _ => ?_) (fun _ => ?_)) <;> conv => whnf)
    | ((with_reducible refine NilK.mk (fun _ => ?_) ?_) <;> conv => whnf)
    | ((with_reducible refine AltK.l ?_); (conv => whnf); (with_reducible refine Need.mk ?_ ?_); (first | omega | (refine ⟨?_, ?_⟩ <;> simp <;> omega) | (simp; omega)); conv => whnf)
    | ((with_reducible refine Need.mk ?_ ?_); (first | omega | rfl | decide | (refine ⟨?_, ?_⟩ <;> simp <;> omega) | (simp; omega)); conv => whnf)
    | ((with_reducible refine Wr.quo ?_ ?_ ?_ ?_); omega; omega; omega; conv => whnf)
    | ((with_reducible refine Wr.inr ?_ ?_); (first | omega | (simp; omega)); conv => whnf)
    | ((with_reducible refine Wr.inu ?_ ?_); omega; conv => whnf)
    | ((with_reducible refine AltK.l ?_); (conv => whnf); (first | (refine CallK.mk _ (hm) ?_) | (refine CallK.mk _ (d1) ?_) | (refine CallK.mk _ (d2) ?_)); conv => whnf)
    | (exfalso; first | omega | contradiction))
  · have hok : ok = true := by assumption
    simp only [retOf, at3D, ivD, hok, if_true]
  · have hok : ok = false := by assumption
    simp only [retOf, at3D, ivD, hok, Bool.false_eq_true, if_false]
def AtS (g : Ga) (t : Int) : Int × Int × Int := if gErr g ≠ 0 then (0, 0, gErr g) else if outsideB t 0 1000000 then (0, 0, 2) else
  if (atS g t).2.2 then ((atS g t).1, (atS g t).2.1, 0) else (0, 0, 11)
def At3D (x : Int × Int × Int) : D := .tup [ivD x.1 x.2.1, .int .i64 x.2.2]
/-- The slow way to the mean level agrees. -/
theorem ev_Mean {g : Ga} {t : Int} (h : Good g) (ht : 0 ≤ t ∧ t ≤ 1000000) : Ev Tryz.prog 127 [gD g, .int .i64 t] (m3D (meanS g t)) := by
  have hlen : (g.marks.map mD).length = g.marks.length := List.length_map _
  have hl := h.len
  have hp := posF_spec (t := t) h.asc
  have hple := posF_le g.marks t
  unfold meanS
  generalize posF g.marks t = p at hp hple
  refine ev_of_awp tysOk mixed (fn := Tryz.f127) Tryz.func127 rfl rfl rfl ?_
  conv => whnf
  repeat' (first
    | ((with_reducible refine Split.of_true ?_); conv => whnf)
    | ((with_reducible refine Split.of_false ?_); conv => whnf)
    | ((with_reducible refine Split.neg ?_))
    | ((with_reducible refine Split.is_true ?_ ?_); decide; conv => whnf)
    | ((with_reducible refine Split.is_false ?_ ?_); decide; conv => whnf)
    | ((with_reducible refine Split.nez (fun _ => ?_) (fun _ => ?_)) <;> conv => whnf)
    | ((with_reducible refine Split.eqz (fun _ => ?_) (fun _ => ?_)) <;> conv => whnf)
    | ((with_reducible refine Split.and ?_))
    | ((with_reducible refine Split.or ?_))
    | ((with_reducible refine Split.streq (fun _ => ?_) (fun _ => ?_)) <;> conv => whnf)
    | ((with_reducible refine Split.dec (fun _ => ?_) (fun _ => ?_)) <;> conv => whnf)
    | ((with_reducible refine Split.mk (fun _ => ?_) (fun _ => ?_)) <;> conv => whnf)
    | ((with_reducible refine NilK.mk (fun _ => ?_) ?_) <;> conv => whnf)
    | ((with_reducible refine AltK.l ?_); (conv => whnf); (with_reducible refine Need.mk ?_ ?_); (first | omega | (refine ⟨?_, ?_⟩ <;> simp <;> omega) | (simp; omega)); conv => whnf)
    | ((with_reducible refine Need.mk ?_ ?_); (first | omega | rfl | decide | (refine ⟨?_, ?_⟩ <;> simp <;> omega) | (simp; omega)); conv => whnf)
    | ((with_reducible refine Wr.quo ?_ ?_ ?_ ?_); omega; omega; omega; conv => whnf)
    | ((with_reducible refine Wr.inr ?_ ?_); (first | omega | (simp; omega)); conv => whnf)
    | ((with_reducible refine Wr.inu ?_ ?_); omega; conv => whnf)
    | (exfalso; first | omega | contradiction))
  refine LoopK.mk (fun i => i ≤ g.marks.length ∧ i ≤ p)
    (fun i => ⟨[(0, .d (gD g)), (1, .d (.int .i64 t)), (2, .ptr 2 0), (4, .d (.int .i64 0)), (5, .d (.int .i64 0)), (6, .d (.bool false)), (7, .d (.int .i64 i))],
      [(2, .var [.d (.str g.name), .d (.int .i64 g.x), .d (.int .i64 g.err), .d (.sl 2 (g.marks.map mD))] false)]⟩)
    (fun i => g.marks.length - i) 0 [] ⟨by omega, by omega⟩ (by refine ⟨?_, ?_, rfl⟩ <;> (repeat' (first | exact True.intro | exact rfl | refine ⟨?_, ?_⟩ | (intro h; cases h; done) | (intro h; exact h) | exact map_snoc | (refine own_congr ?_; simp; done) | (refine int_congr ?_; (first | omega | (simp; omega))) | (simp; done)))) ?_
  rintro i ⟨hi, hip⟩
  conv => whnf
  repeat' (first
    | ((with_reducible refine Split.of_true ?_); conv => whnf)
    | ((with_reducible refine Split.of_false ?_); conv => whnf)
    | ((with_reducible refine Split.neg ?_))
    | ((with_reducible refine Split.is_true ?_ ?_); decide; conv => whnf)
    | ((with_reducible refine Split.is_false ?_ ?_); decide; conv => whnf)
    | ((with_reducible refine Split.nez (fun _ => ?_) (fun _ => ?_)) <;> conv => whnf)
    | ((with_reducible refine Split.eqz (fun _ => ?_) (fun _ => ?_)) <;> conv => whnf)
    | ((with_reducible refine Split.and ?_))
    | ((with_reducible refine Split.or ?_))
    | ((with_reducible refine Split.streq (fun _ => ?_) (fun _ => ?_)) <;> conv => whnf)
    | ((with_reducible refine Split.dec (fun _ => ?_) (fun _ => ?_)) <;> conv => whnf)
    | ((with_reducible refine Split.mk (fun _ => ?_) (fun _ => ?_)) <;> conv => whnf)
    | ((with_reducible refine NilK.mk (fun _ => ?_) ?_) <;> conv => whnf)
    | ((with_reducible refine AltK.l ?_); (conv => whnf); (with_reducible refine Need.mk ?_ ?_); (first | omega | (refine ⟨?_, ?_⟩ <;> simp <;> omega) | (simp; omega)); conv => whnf)
    | ((with_reducible refine Need.mk ?_ ?_); (first | omega | rfl | decide | (refine ⟨?_, ?_⟩ <;> simp <;> omega) | (simp; omega)); conv => whnf)
    | ((with_reducible refine Wr.quo ?_ ?_ ?_ ?_); omega; omega; omega; conv => whnf)
    | ((with_reducible refine Wr.inr ?_ ?_); (first | omega | (simp; omega)); conv => whnf)
    | ((with_reducible refine Wr.inu ?_ ?_); omega; conv => whnf)
    | (exfalso; first | omega | contradiction))
  · obtain ⟨b, hb⟩ := some_of_lt (l := g.marks) (i := i) (by omega)
    have hpi := hp i b hb
    refine PickE.map i hb (by omega) ?_
    have hq : i = 0 ∨ ∃ q a, i = q + 1 ∧ g.marks[q]? = some a := by
      cases i with
      | zero => exact .inl rfl
      | succ q =>
        obtain ⟨a, ha⟩ := some_of_lt (l := g.marks) (i := q) (by omega)
        exact .inr ⟨q, a, rfl, ha⟩
    conv => whnf
    repeat' (first
      | ((with_reducible refine Split.of_true ?_); conv => whnf)
      | ((with_reducible refine Split.of_false ?_); conv => whnf)
      | ((with_reducible refine Split.neg ?_))
      | ((with_reducible refine Split.is_true ?_ ?_); decide; conv => whnf)
      | ((with_reducible refine Split.is_false ?_ ?_); decide; conv => whnf)
      | ((with_reducible refine Split.nez (fun _ => ?_) (fun _ => ?_)) <;> conv => whnf)
      | ((with_reducible refine Split.eqz (fun _ => ?_) (fun _ => ?_)) <;> conv => whnf)
      | ((with_reducible refine Split.and ?_))
      | ((with_reducible refine Split.or ?_))
      | ((with_reducible refine Split.streq (fun _ => ?_) (fun _ => ?_)) <;> conv => whnf)
      | ((with_reducible refine Split.dec (fun _ => ?_) (fun _ => ?_)) <;> conv => whnf)
      | ((with_reducible refine Split.mk (fun _ => ?_) (fun _ => ?_)) <;> conv => whnf)
      | ((with_reducible refine NilK.mk (fun _ => ?_) ?_) <;> conv => whnf)
      | ((with_reducible refine AltK.l ?_); (conv => whnf); (with_reducible refine Need.mk ?_ ?_); (first | omega | (refine ⟨?_, ?_⟩ <;> simp <;> omega) | (simp; omega)); conv => whnf)
      | ((with_reducible refine Need.mk ?_ ?_); (first | omega | rfl | decide | (refine ⟨?_, ?_⟩ <;> simp <;> omega) | (simp; omega)); conv => whnf)
      | ((with_reducible refine Wr.quo ?_ ?_ ?_ ?_); omega; omega; omega; conv => whnf)
      | ((with_reducible refine Wr.inr ?_ ?_); (first | omega | (simp; omega)); conv => whnf)
      | ((with_reducible refine Wr.inu ?_ ?_); omega; conv => whnf)
      | (exfalso; first | omega | contradiction))
    · have e : p = i := by omega
      have hbt : b.m = t := by assumption
      subst e
      simp only [retOf, meanAt, hb, hbt, if_true, m3D]
    · have e : p = 0 := by omega
      have e' : i = 0 := by omega
      subst e; subst e'
      have hbt : b.m ≠ t := by assumption
      simp only [retOf, meanAt, hb, hbt, if_false, m3D]
    · obtain ⟨q, a, rfl, ha⟩ := hq.resolve_left (by omega)
      have e : p = q + 1 := by omega
      subst e
      have hbt : b.m ≠ t := by assumption
      have wa := wrongB_false (h.ok a (List.mem_of_getElem? ha))
      have wb := wrongB_false (h.ok b (List.mem_of_getElem? hb))
      have h1 := (hp q a ha).1 (by omega)
      have e1 := mul_bd (x := a.l) (y := b.m - a.m) (X := 20000) (Y := 1000000) (by omega) (by omega)
      have e2 := mul_bd (x := b.l - a.l) (y := t - a.m) (X := 40000) (Y := 1000000) (by omega) (by omega)
      refine PickE.map q ha (by omega) ?_
      conv => whnf
      repeat' (first
        | ((with_reducible refine Split.of_true ?_); conv => whnf)
        | ((with_reducible refine Split.of_false ?_); conv => whnf)
        | ((with_reducible refine Split.neg ?_))
        | ((with_reducible refine Split.is_true ?_ ?_); decide; conv => whnf)
        | ((with_reducible refine Split.is_false ?_ ?_); decide; conv => whnf)
        | ((with_reducible refine Split.nez (fun _ => ?_) (fun _ => ?_)) <;> conv => whnf)
        | ((with_reducible refine Split.eqz (fun _ => ?_) (fun _ => ?_)) <;> conv => whnf)
        | ((with_reducible refine Split.and ?_))
        | ((with_reducible refine Split.or ?_))
        | ((with_reducible refine Split.streq (fun _ => ?_) (fun _ => ?_)) <;> conv => whnf)
        | ((with_reducible refine Split.dec (fun _ => ?_) (fun _ => ?_)) <;> conv => whnf)
        | ((with_reducible refine Split.mk (fun _ => ?_) (fun _ => ?_)) <;> conv => whnf)
        | ((with_reducible refine NilK.mk (fun _ => ?_) ?_) <;> conv => whnf)
        | ((with_reducible refine AltK.l ?_); (conv => whnf); (with_reducible refine Need.mk ?_ ?_); (first | omega | (refine ⟨?_, ?_⟩ <;> simp <;> omega) | (simp; omega)); conv => whnf)
        | ((with_reducible refine Need.mk ?_ ?_); (first | omega | rfl | decide | (refine ⟨?_, ?_⟩ <;> simp <;> omega) | (simp; omega)); conv => whnf)
        | ((with_reducible refine Wr.quo ?_ ?_ ?_ ?_); omega; omega; omega; conv => whnf)
        | ((with_reducible refine Wr.inr ?_ ?_); (first | omega | (simp; omega)); conv => whnf)
        | ((with_reducible refine Wr.inu ?_ ?_); omega; conv => whnf)
        | (exfalso; first | omega | contradiction))
      simp only [retOf, meanAt, hb, ha, hbt, if_false, m3D]
    · exact Again.mk (i + 1) [] ⟨by omega, by omega⟩ (by omega) (by refine ⟨?_, ?_, rfl⟩ <;> (repeat' (first | exact True.intro | exact rfl | refine ⟨?_, ?_⟩ | (intro h; cases h; done) | (intro h; exact h) | exact map_snoc | (refine own_congr ?_; simp; done) | (refine int_congr ?_; (first | omega | (simp; omega))) | (simp; done))))
  · have : g.marks[p]? = none := List.getElem?_eq_none (by omega)
    simp only [retOf, meanAt, this, m3D]
theorem ev_AtR {g : Ga} {t : Int} (h : Good g) (ht : 0 ≤ t ∧ t ≤ 1000000) : Ev Tryz.prog 66 [gD g, .int .i64 t] (at3D (atS g t)) := by
  have hm := ev_Mean h ht
  have hb := mean_bd (t := t) h
  have he := h.err
  unfold atS
  generalize meanS g t = x at hm hb
  obtain ⟨n, d, ok⟩ := x
  dsimp only at hb ⊢
  have q1 := ediv_bd (a := n) (M := 60000000000) hb.1 (by omega)
  have q2 := ediv_bd (a := -n) (M := 60000000000) hb.1 (by omega)
  have d1 := ev_Down n d hb.1 (by omega)
  have d2 := ev_Up n d hb.1 (by omega)
  unfold upZ at d2 ⊢
  generalize n / d = u at *
  generalize -n / d = v at *
  refine ev_of_awp tysOk mixed (fn := Tryz.f66) Tryz.func66 rfl rfl rfl ?_
  conv => whnf
  repeat' (first
    | ((with_reducible refine Split.of_true ?_); conv => whnf)
    | ((with_reducible refine Split.of_false ?_); conv => whnf)
    | ((with_reducible refine Split.neg ?_))
    | ((with_reducible refine Split.is_true ?_ ?_); decide; conv => whnf)
    | ((with_reducible refine Split.is_false ?_ ?_); decide; conv => whnf)
    | ((with_reducible refine Split.nez (fun _ => ?_) (fun _ => ?_)) <;> conv => whnf)
    | ((with_reducible refine Split.eqz (fun _ => ?_) (fun _ => ?_)) <;> conv => whnf)
    | ((with_reducible refine Split.and ?_))
    | ((with_reducible refine Split.or ?_))
    | ((with_reducible refine Split.streq (fun _ => ?_) (fun _ => ?_)) <;> conv => whnf)
    | ((with_reducible refine Split.dec (fun _ => ?_) (fun _ => ?_)) <;> conv => whnf)
    | ((with_reducible refine Split.mk (fun _ => ?_) (fun _ => ?_)) <;> conv => whnf)
    | ((with_reducible refine NilK.mk (fun _ => ?_) ?_) <;> conv => whnf)
    | ((with_reducible refine AltK.l ?_); (conv => whnf); (with_reducible refine Need.mk ?_ ?_); (first | omega | (refine ⟨?_, ?_⟩ <;> simp <;> omega) | (simp; omega)); conv => whnf)
    | ((with_reducible refine Need.mk ?_ ?_); (first | omega | rfl | decide | (refine ⟨?_, ?_⟩ <;> simp <;> omega) | (simp; omega)); conv => whnf)
    | ((with_reducible refine Wr.quo ?_ ?_ ?_ ?_); omega; omega; omega; conv => whnf)
    | ((with_reducible refine Wr.inr ?_ ?_); (first | omega | (simp; omega)); conv => whnf)
    | ((with_reducible refine Wr.inu ?_ ?_); omega; conv => whnf)
    | ((with_reducible refine AltK.l ?_); (conv => whnf); (first | (refine CallK.mk _ (hm) ?_) | (refine CallK.mk _ (d1) ?_) | (refine CallK.mk _ (d2) ?_)); conv => whnf)
    | (exfalso; first | omega | contradiction))
  · have hok : ok = true := by assumption
    simp only [retOf, at3D, ivD, hok, if_true]
  · have hok : ok = false := by assumption
    simp only [retOf, at3D, ivD, hok, Bool.false_eq_true, if_false]
def shortB (g : Ga) : Bool := decide (g.name.size ≤ 40) && (decide (g.marks.length ≤ 30) || (decide (400 < g.marks.length) && decide (g.marks.length < 420)))
def pierG : Ga := ⟨⟨#[112, 105, 101, 114]⟩, 0, 2, [⟨0, 0⟩, ⟨10, 25⟩]⟩
theorem pier_at : AtS pierG 3 = (5, 10, 0) := by decide
theorem floor_facts {n d : Int} (hd : 0 < d) : (n / d) * d ≤ n ∧ n ≤ upZ n d * d ∧ upZ n d - n / d ≤ 1 := by
  have h1 := Int.ediv_mul_le n (Int.ne_of_gt hd)
  have h2 := Int.ediv_mul_le (-n) (Int.ne_of_gt hd)
  have h3 := Int.lt_ediv_add_one_mul_self n hd
  have h4 : -(n / d) - 1 ≤ -n / d := by
    refine (Int.le_ediv_iff_mul_le hd).2 ?_
    have e1 : (-(n / d) - 1) * d = -((n / d + 1) * d) := by rw [← Int.neg_mul]; congr 1; omega
    omega
  unfold upZ
  refine ⟨h1, ?_, by omega⟩
  rw [Int.neg_mul]
  omega
end Go.Proofs.Tryz
end

section
namespace Go.Proofs.Tryz
open Go Go.Vm
set_option maxRecDepth 20000
set_option maxHeartbeats 2000000
def straightB (a m b : Mk) : Bool := (m.l - a.l) * (b.m - a.m) == (b.l - a.l) * (m.m - a.m)
def simpGo : Option Mk → List Mk → List Mk
  | _, [] => []
  | none, m :: r => m :: simpGo (some m) r
  | some _, [m] => [m]
  | some a, m :: b :: r => if straightB a m b then simpGo (some a) (b :: r) else m :: simpGo (some m) (b :: r)
end Go.Proofs.Tryz
end

section
namespace Go.Proofs.Tryz
open Go Go.Vm
set_option maxRecDepth 20000
set_option maxHeartbeats 2000000
def gzG : Ga := ⟨⟨#[]⟩, 0, 0, []⟩
open Classical in
noncomputable def eqB {α : Type} (a b : α) : Bool := decide (a = b)
theorem eqB_self {α : Type} (a : α) : eqB a a = true := by simp [eqB]
theorem eqB_of {α : Type} {a b : α} (h : a = b) : eqB a b = true := by simp [eqB, h]
theorem eqB_ne {α : Type} {a b : α} (h : a ≠ b) : eqB a b = false := by simp [eqB, h]
theorem mk_ext {m n : Mk} (h1 : m.m = n.m) (h2 : m.l = n.l) : m = n := by cases m; cases n; simp_all
theorem ga_ext {m n : Ga} (h1 : m.name = n.name) (h2 : m.x = n.x) (h3 : m.err = n.err) (h4 : m.marks = n.marks) : m = n := by cases m; cases n; simp_all
theorem take_succ_eq {α : Type} {a b : List α} {i : Nat} {x : α} (ha : a[i]? = some x) (hb : b[i]? = some x) (h : a.take i = b.take i) : a.take (i + 1) = b.take (i + 1) := by
  rw [List.take_add_one, List.take_add_one, h, ha, hb]
theorem eq_of_take {α : Type} {a b : List α} {i : Nat} (h : a.take i = b.take i) (ha : a.length ≤ i) (hb : b.length ≤ i) : a = b := by
  rwa [List.take_of_length_le ha, List.take_of_length_le hb] at h
theorem eqB_one {α : Type} (a b : α) : eqB [a] [b] = eqB a b := by
  by_cases h : a = b
  · rw [eqB_of h, eqB_of (by rw [h])]
  · rw [eqB_ne h, eqB_ne (by simpa using h)]
def SInv (g : Ga) (i : Nat) (out : List Mk) : Prop := i ≤ g.marks.length ∧ out.length ≤ i ∧ simpGo none g.marks = out ++ simpGo out.getLast? (g.marks.drop i) ∧ (out = [] → i = 0) ∧ ∀ m ∈ out, m ∈ g.marks
theorem sinv_skip {g : Ga} {i : Nat} {o : List Mk} {a m b : Mk} (h : SInv g i (o ++ [a])) (hm : g.marks[i]? = some m) (hb : g.marks[i+1]? = some b) (hs : straightB a m b = true) : SInv g (i + 1) (o ++ [a]) := by
  obtain ⟨h1, h2, h3, h4, h5⟩ := h
  have hi := (List.getElem?_eq_some_iff.1 hm).1
  refine ⟨by omega, by omega, ?_, by simp, h5⟩
  rw [h3, drop_of hm, drop_of hb]
  simp [simpGo, hs]
theorem sinv_push {g : Ga} {i : Nat} {out : List Mk} {m : Mk} (h : SInv g i out) (hm : g.marks[i]? = some m)
    (hc : i = 0 ∨ i + 1 = g.marks.length ∨ ∃ o a b, out = o ++ [a] ∧ g.marks[i+1]? = some b ∧ straightB a m b = false) : SInv g (i + 1) (out ++ [m]) := by
  obtain ⟨h1, h2, h3, h4, h5⟩ := h
  have hi := (List.getElem?_eq_some_iff.1 hm).1
  refine ⟨by omega, by simp; omega, ?_, by simp, ?_⟩
  · rw [h3, drop_of hm]
    rcases hc with rfl | hc | ⟨o, a, b, rfl, hb, hs⟩
    · have : out = [] := List.eq_nil_of_length_eq_zero (by omega)
      subst this
      simp [simpGo]
    · rw [List.drop_eq_nil_of_le (by omega : g.marks.length ≤ i + 1)]
      rcases nil_or_snoc out with rfl | ⟨o, a, rfl⟩ <;> simp [simpGo]
    · rw [drop_of hb]
      simp [simpGo, hs]
  · intro x hx
    rcases List.mem_append.1 hx with hx | hx
    · exact h5 x hx
    · rw [List.mem_singleton.1 hx]; exact List.mem_of_getElem? hm
theorem sinv_end {g : Ga} {i : Nat} {out : List Mk} (h : SInv g i out) (hi : g.marks.length ≤ i) : simpGo none g.marks = out := by
  rw [h.2.2.1, List.drop_eq_nil_of_le hi]
  cases out.getLast? <;> simp [simpGo]
end Go.Proofs.Tryz
end

section
namespace Go.Proofs.Tryz
open Go Go.Vm
/-- The mean level, by recursion on the marks. -/
def meanR : List Mk → Int → Option (Int × Int)
  | [], _ => none
  | [b], t => if b.m = t then some (b.l, 1) else none
  | a :: b :: r, t => if a.m = t then some (a.l, 1) else if t < a.m then none else if t < b.m then some (a.l * (b.m - a.m) + (b.l - a.l) * (t - a.m), b.m - a.m) else meanR (b :: r) t
def mean3 : Option (Int × Int) → Int × Int × Bool
  | some (n, d) => (n, d, true)
  | none => (0, 1, false)
theorem posF_cons (a : Mk) (r : List Mk) (t : Int) : posF (a :: r) t = if a.m < t then posF r t + 1 else 0 := by
  by_cases h : a.m < t <;> simp [posF, h]
theorem meanAt_cons {a : Mk} {l : List Mk} {p : Nat} {t : Int} (hp : p ≠ 0) : meanAt (a :: l) (p + 1) t = meanAt l p t := by
  cases p with
  | zero => exact absurd rfl hp
  | succ p =>
    unfold meanAt
    simp only [List.getElem?_cons_succ]
theorem meanR_eq : ∀ {l : List Mk} {t : Int}, l.Pairwise (fun a b => a.m < b.m) → meanAt l (posF l t) t = mean3 (meanR l t)
  | [], t, _ => rfl
  | [b], t, _ => by
    rw [posF_cons]
    by_cases h : b.m < t
    · rw [if_pos h]
      have : b.m ≠ t := by omega
      simp [posF, meanAt, meanR, mean3, this]
    · rw [if_neg h]
      by_cases e : b.m = t <;> simp [meanAt, meanR, mean3, e]
  | a :: b :: r, t, hp => by
    obtain ⟨h1, h2⟩ := List.pairwise_cons.1 hp
    have hab := h1 b (List.mem_cons_self ..)
    rw [posF_cons]
    by_cases h : a.m < t
    · rw [if_pos h]
      by_cases hb : b.m < t
      · have ih := meanR_eq (t := t) h2
        rw [meanAt_cons (by rw [posF_cons, if_pos hb]; omega), ih]
        simp only [meanR]
        rw [if_neg (by omega), if_neg (by omega), if_neg (by omega)]
      · rw [posF_cons, if_neg hb]
        simp only [meanR]
        rw [if_neg (by omega), if_neg (by omega)]
        by_cases e : b.m = t
        · rw [if_neg (by omega)]
          subst e
          cases r with
          | nil => simp [meanAt, mean3, meanR]
          | cons c r => simp [meanAt, mean3, meanR]
        · rw [if_pos (by omega)]
          simp [meanAt, mean3, e]
    · rw [if_neg h]
      simp only [meanR]
      by_cases e : a.m = t
      · rw [if_pos e]
        simp [meanAt, mean3, e]
      · rw [if_neg e, if_pos (by omega)]
        simp [meanAt, mean3, e]
/-- Two fractions (or none) of one value. -/
def Fr : Option (Int × Int) → Option (Int × Int) → Prop
  | none, none => True
  | some (n, d), some (n', d') => 0 < d ∧ 0 < d' ∧ n * d' = n' * d
  | _, _ => False
theorem Fr.trans {a b c : Option (Int × Int)} (h1 : Fr a b) (h2 : Fr b c) : Fr a c := by
  match a, b, c, h1, h2 with
  | none, none, none, _, _ => trivial
  | some (n, d), some (n', d'), some (n'', d''), ⟨p1, p2, e1⟩, ⟨_, p3, e2⟩ =>
    refine ⟨p1, p3, ?_⟩
    have : (n * d'') * d' = (n'' * d) * d' := by grind
    exact Int.eq_of_mul_eq_mul_right (by omega) this
theorem meanR_pos : ∀ {l : List Mk} {t n d : Int}, l.Pairwise (fun a b => a.m < b.m) → meanR l t = some (n, d) → 0 < d
  | [], t, n, d, _, h => by cases h
  | [b], t, n, d, _, h => by
    simp only [meanR] at h
    split at h
    · simp at h; omega
    · cases h
  | a :: b :: r, t, n, d, hp, h => by
    obtain ⟨h1, h2⟩ := List.pairwise_cons.1 hp
    have hab := h1 b (List.mem_cons_self ..)
    simp only [meanR] at h
    split at h
    · simp at h; omega
    · split at h
      · cases h
      · split at h
        · simp at h; omega
        · exact meanR_pos h2 h
theorem Fr.refl {l : List Mk} {t : Int} (hp : l.Pairwise (fun a b => a.m < b.m)) : Fr (meanR l t) (meanR l t) := by
  cases h : meanR l t with
  | none => trivial
  | some x => obtain ⟨n, d⟩ := x; have := meanR_pos hp h; exact ⟨this, this, rfl⟩
theorem fr_straight {a m b : Mk} {r : List Mk} {t : Int} (hp : (a :: m :: b :: r).Pairwise (fun a b => a.m < b.m)) (hs : straightB a m b = true) : Fr (meanR (a :: b :: r) t) (meanR (a :: m :: b :: r) t) := by
  obtain ⟨h1, h2⟩ := List.pairwise_cons.1 hp
  obtain ⟨h3, h4⟩ := List.pairwise_cons.1 h2
  have ham := h1 m (by simp)
  have hmb := h3 b (by simp)
  have hs : (m.l - a.l) * (b.m - a.m) = (b.l - a.l) * (m.m - a.m) := by simpa [straightB] using hs
  simp only [meanR]
  by_cases e1 : a.m = t
  · simp only [if_pos e1]; exact ⟨by omega, by omega, rfl⟩
  · simp only [if_neg e1]
    by_cases e2 : t < a.m
    · simp only [if_pos e2]; trivial
    · simp only [if_neg e2]
      by_cases e3 : t < m.m
      · simp only [if_pos e3, if_pos (show t < b.m by omega)]
        exact ⟨by omega, by omega, by grind⟩
      · simp only [if_neg e3]
        by_cases e4 : m.m = t
        · simp only [if_pos e4, if_pos (show t < b.m by omega)]
          subst e4
          exact ⟨by omega, by omega, by grind⟩
        · simp only [if_neg e4]
          by_cases e5 : t < b.m
          · simp only [if_pos e5]
            exact ⟨by omega, by omega, by grind⟩
          · simp only [if_neg e5]
            exact Fr.refl h4
theorem simp_sub : ∀ (l : List Mk) (o : Option Mk), (simpGo o l).Sublist l
  | [], o => by cases o <;> simp [simpGo]
  | [m], o => by cases o <;> simp [simpGo]
  | m :: b :: r, none => by simp only [simpGo]; exact (simp_sub (b :: r) _).cons_cons m
  | m :: b :: r, some a => by
    simp only [simpGo]
    split
    · exact (simp_sub (b :: r) _).cons m
    · exact (simp_sub (b :: r) _).cons_cons m
theorem simp_mean : ∀ (l : List Mk) (a : Mk) (t : Int), (a :: l).Pairwise (fun a b => a.m < b.m) → Fr (meanR (a :: simpGo (some a) l) t) (meanR (a :: l) t)
  | [], a, t, hp => by simp only [simpGo]; exact Fr.refl hp
  | [m], a, t, hp => by simp only [simpGo]; exact Fr.refl hp
  | m :: b :: r, a, t, hp => by
    simp only [simpGo]
    split
    · rename_i hs
      have hp' : (a :: b :: r).Pairwise (fun a b => a.m < b.m) := hp.sublist ((List.sublist_cons_self m (b :: r)).cons_cons a)
      exact (simp_mean (b :: r) a t hp').trans (fr_straight hp hs)
    · have hp2 := (List.pairwise_cons.1 hp).2
      have ih := simp_mean (b :: r) m t hp2
      have ham := (List.pairwise_cons.1 hp).1 m (by simp)
      generalize simpGo (some m) (b :: r) = s at ih
      have u1 : ∀ (s : List Mk), meanR (a :: m :: s) t = if a.m = t then some (a.l, 1) else if t < a.m then none else if t < m.m then some (a.l * (m.m - a.m) + (m.l - a.l) * (t - a.m), m.m - a.m) else meanR (m :: s) t := fun s => by simp only [meanR]
      rw [u1, u1]
      split
      · exact ⟨by omega, by omega, rfl⟩
      · split
        · trivial
        · split
          · exact ⟨by omega, by omega, rfl⟩
          · exact ih
theorem simp_mean0 {l : List Mk} {t : Int} (hp : l.Pairwise (fun a b => a.m < b.m)) : Fr (meanR (simpGo none l) t) (meanR l t) := by
  cases l with
  | nil => exact trivial
  | cons a r => simp only [simpGo]; exact simp_mean r a t hp
theorem floor_fr {n d n' d' : Int} (h1 : 0 < d) (h2 : 0 < d') (h : n * d' = n' * d) : n / d = n' / d' := by
  rw [← Int.mul_ediv_mul_of_pos_left n d h2, h, Int.mul_comm d d', Int.mul_ediv_mul_of_pos_left n' d' h1]
theorem up_fr {n d n' d' : Int} (h1 : 0 < d) (h2 : 0 < d') (h : n * d' = n' * d) : upZ n d = upZ n' d' := by
  unfold upZ; rw [floor_fr h1 h2 (n := -n) (n' := -n') (by rw [Int.neg_mul, Int.neg_mul, h])]
theorem atS_fr {g g' : Ga} {t : Int} (he : g.err = g'.err) (h1 : g.marks.Pairwise fun a b => a.m < b.m) (h2 : g'.marks.Pairwise fun a b => a.m < b.m) (h : Fr (meanR g.marks t) (meanR g'.marks t)) : atS g t = atS g' t := by
  unfold atS meanS
  rw [meanR_eq h1, meanR_eq h2]
  generalize meanR g.marks t = x at h
  generalize meanR g'.marks t = y at h
  match x, y, h with
  | none, none, _ => rfl
  | some (n, d), some (n', d'), ⟨p1, p2, e⟩ => simp [mean3, floor_fr p1 p2 e, up_fr p1 p2 e, he]
theorem markErr_of : ∀ {l : List Mk} {p : Option Mk}, (∀ m ∈ l, wrongB m.m m.l = false) → l.Pairwise (fun a b => a.m < b.m) → (∀ q, p = some q → ∀ m ∈ l, q.m < m.m) → markErr p l = 0
  | [], p, _, _, _ => by cases p <;> rfl
  | m :: r, p, h1, h2, h3 => by
    obtain ⟨k1, k2⟩ := List.pairwise_cons.1 h2
    have ih : markErr (some m) r = 0 := markErr_of (fun x hx => h1 x (by simp [hx])) k2 (fun q hq x hx => by cases hq; exact k1 x hx)
    simp only [markErr, h1 m (by simp), Bool.false_eq_true, if_false]
    cases p with
    | none => exact ih
    | some q =>
      have := h3 q rfl m (by simp)
      simp only
      rw [if_neg (by omega)]
      exact ih
theorem gErr_parts {g : Ga} : gErr g = 0 ↔ nameB g.name = true ∧ Good g := by
  constructor
  · intro h
    refine ⟨?_, good_of h⟩
    unfold gErr at h
    split at h
    · assumption
    · cases h
  · rintro ⟨h1, h2⟩
    have hx := h2.x
    have he := h2.err
    have hl := h2.len
    unfold gErr recErr
    rw [if_pos h1, if_neg (by simp [outsideB]; omega), if_neg (by omega)]
    exact markErr_of h2.ok h2.asc (fun q h => (by cases h))
def simpG (g : Ga) : Ga := { g with marks := simpGo none g.marks }
theorem good_sub {g : Ga} {l : List Mk} (h : Good g) (hs : l.Sublist g.marks) : Good { g with marks := l } :=
  ⟨h.err, h.x, Nat.le_trans hs.length_le h.len, fun m hm => h.ok m (hs.subset hm), h.asc.sublist hs⟩
theorem simpG_ok {g : Ga} (h : gErr g = 0) : gErr (simpG g) = 0 := by
  obtain ⟨h1, h2⟩ := gErr_parts.1 h
  exact gErr_parts.2 ⟨h1, good_sub h2 (simp_sub _ _)⟩
theorem simpG_At {g : Ga} (h : gErr g = 0) (t : Int) : AtS (simpG g) t = AtS g t := by
  have h2 := good_of h
  unfold AtS
  rw [h, simpG_ok h, atS_fr (g := simpG g) (g' := g) rfl (good_of (simpG_ok h)).asc h2.asc (simp_mean0 h2.asc)]
end Go.Proofs.Tryz
end

section
/- TideSimple: its contract. -/
namespace Go.Proofs.Tryz
open Go Go.Vm
set_option maxRecDepth 20000
set_option maxHeartbeats 2000000
theorem gz_len : gzG.marks.length < 1000000 := by decide
end Go.Proofs.Tryz
end

section
namespace Go.Proofs.Tryz
open Go Go.Vm
set_option maxRecDepth 20000
set_option maxHeartbeats 2000000
def shM (z : Int) (m : Mk) : Mk := ⟨m.m, m.l + z⟩
def shG (z : Int) (g : Ga) : Ga := { g with marks := g.marks.map (shM z) }
def badSh (z : Int) (g : Ga) : Bool := g.marks.any fun m => wrongB m.m (m.l + z)
def shE (z : Int) (g : Ga) : Int := if gErr g ≠ 0 then gErr g else if outsideB z (-40000) 40000 || badSh z g then 2 else 0
def shR (z : Int) (g : Ga) : Ga := if shE z g = 0 then shG z g else gzG
theorem bad_at {z : Int} {g : Ga} {i : Nat} {m : Mk} (hm : g.marks[i]? = some m) (h : wrongB m.m (m.l + z) = true) : badSh z g = true :=
  List.any_eq_true.2 ⟨m, List.mem_of_getElem? hm, h⟩
theorem take_snoc {α : Type} {l : List α} {i : Nat} {m : α} (h : l[i]? = some m) : l.take (i + 1) = l.take i ++ [m] := by
  rw [List.take_add_one, h]; rfl
theorem not_bad {z : Int} {g : Ga} (h : ∀ m ∈ g.marks, wrongB m.m (m.l + z) = false) : badSh z g = false := by
  rw [Bool.eq_false_iff]; intro hb
  obtain ⟨m, hm, hw⟩ := List.any_eq_true.1 hb
  rw [h m hm] at hw; cases hw
theorem sh_mean : ∀ (l : List Mk) (z t : Int), meanR (l.map (shM z)) t = (meanR l t).map fun x => (x.1 + z * x.2, x.2)
  | [], z, t => rfl
  | [b], z, t => by
    simp only [List.map_cons, List.map_nil, meanR, shM]
    split <;> simp
  | a :: b :: r, z, t => by
    have ih := sh_mean (b :: r) z t
    simp only [List.map_cons, meanR, shM] at ih ⊢
    split
    · simp
    · split
      · simp
      · split
        · simp only [Option.map_some, Option.some.injEq, Prod.mk.injEq, and_true]; grind
        · exact ih
theorem shG_ok {g : Ga} {z : Int} (h : shE z g = 0) : gErr (shG z g) = 0 ∧ gErr g = 0 ∧ -40000 ≤ z ∧ z ≤ 40000 := by
  unfold shE at h
  split at h
  · contradiction
  · rename_i h0
    have h0 : gErr g = 0 := by simpa using h0
    split at h
    · cases h
    · rename_i h1
      simp only [Bool.or_eq_true, not_or, Bool.not_eq_true] at h1
      obtain ⟨n1, n2⟩ := gErr_parts.1 h0
      refine ⟨gErr_parts.2 ⟨n1, n2.err, n2.x, by simpa [shG] using n2.len, ?_, ?_⟩, h0, ?_⟩
      · intro m hm
        obtain ⟨x, hx, rfl⟩ := List.mem_map.1 hm
        have := h1.2
        rw [badSh, List.any_eq_false] at this
        show wrongB x.m (x.l + z) = false
        simpa using this x hx
      · exact List.pairwise_map.2 n2.asc
      · have := h1.1; simp [outsideB] at this; omega
theorem sh_at {g : Ga} {z t : Int} (h : shE z g = 0) : (atS (shG z g) t).2.2 = (atS g t).2.2 ∧ ((atS g t).2.2 = true → (atS (shG z g) t).1 = (atS g t).1 + z ∧ (atS (shG z g) t).2.1 = (atS g t).2.1 + z) := by
  obtain ⟨h1, h2, -⟩ := shG_ok h
  unfold atS meanS
  rw [meanR_eq (good_of h1).asc, meanR_eq (good_of h2).asc]
  have e : (shG z g).marks = g.marks.map (shM z) := rfl
  rw [e, sh_mean]
  cases hm : meanR g.marks t with
  | none => simp [mean3]
  | some x =>
    obtain ⟨n, d⟩ := x
    have hd := meanR_pos (good_of h2).asc hm
    simp only [Option.map_some, mean3, if_true, true_and]
    intro _
    have e1 : (n + z * d) / d = n / d + z := Int.add_mul_ediv_right n z (by omega)
    have e2 : upZ (n + z * d) d = upZ n d + z := by
      unfold upZ
      rw [show -(n + z * d) = -n + (-z) * d by grind, Int.add_mul_ediv_right _ _ (by omega)]
      omega
    rw [e1, e2]
    simp only [shG]
    omega
theorem sh_back {g : Ga} {z : Int} (h : shE z g = 0) : shE (-z) (shG z g) = 0 ∧ shG (-z) (shG z g) = g := by
  obtain ⟨h1, h2, h3⟩ := shG_ok h
  have e : shG (-z) (shG z g) = g := by
    refine ga_ext rfl rfl rfl ?_
    simp only [shG, List.map_map]
    conv => rhs; rw [← List.map_id g.marks]
    exact List.map_congr_left fun m _ => mk_ext rfl (by simp [shM]; omega)
  refine ⟨?_, e⟩
  unfold shE
  rw [if_neg (by simp [h1])]
  have : badSh (-z) (shG z g) = false := by
    rw [badSh, List.any_eq_false]
    intro m hm
    obtain ⟨x, hx, rfl⟩ := List.mem_map.1 hm
    have := (good_of h2).ok x hx
    simp only [shM, show x.l + z + -z = x.l by omega, this]; simp
  rw [this]
  simp [outsideB]; omega
end Go.Proofs.Tryz
end

section
namespace Go.Proofs.Tryz
open Go Go.Vm
set_option maxRecDepth 20000
set_option maxHeartbeats 2000000
def midM (a b : Mk) (k p : Int) : Mk := ⟨a.m + k * (b.m - a.m) / 6, a.l + p * (b.l - a.l) / 12⟩
def midL : List (Int × Int) := [(1, 1), (2, 3), (3, 6), (4, 9), (5, 11)]
def addTw (acc : List Mk) (n : Mk) : List Mk := match acc.getLast? with
  | some z => if z.m < n.m then acc ++ [n] else acc
  | none => acc
def mids (acc : List Mk) (a b : Mk) (k : Nat) : List Mk := (midL.take k).foldl (fun acc x => addTw acc (midM a b x.1 x.2)) acc
def twGo : List Mk → Mk → List Mk → List Mk
  | acc, _, [] => acc
  | acc, a, b :: r => twGo (mids acc a b 5 ++ [b]) b r
def twL : List Mk → List Mk
  | [] => []
  | a :: r => twGo [a] a r
theorem addTw_snoc (o : List Mk) (z n : Mk) : addTw (o ++ [z]) n = if z.m < n.m then o ++ [z] ++ [n] else o ++ [z] := by simp [addTw]
theorem mids_succ {acc : List Mk} {a b : Mk} {k : Nat} {x : Int × Int} (h : midL[k]? = some x) : mids acc a b (k + 1) = addTw (mids acc a b k) (midM a b x.1 x.2) := by
  unfold mids
  rw [take_snoc h, List.foldl_append]
  rfl
theorem midL_of {k : Nat} {x : Int × Int} (h : midL[k]? = some x) : (k = 0 ∧ x = (1, 1)) ∨ (k = 1 ∧ x = (2, 3)) ∨ (k = 2 ∧ x = (3, 6)) ∨ (k = 3 ∧ x = (4, 9)) ∨ (k = 4 ∧ x = (5, 11)) := by
  have := lt_of_some h
  have : k = 0 ∨ k = 1 ∨ k = 2 ∨ k = 3 ∨ k = 4 := by simp [midL] at this; omega
  rcases this with rfl | rfl | rfl | rfl | rfl <;> simp [midL] at h <;> simp [h]
theorem midM_in {a b : Mk} {k : Nat} {x : Int × Int} (h : midL[k]? = some x) (hab : a.m < b.m) : a.m ≤ (midM a b x.1 x.2).m ∧ (midM a b x.1 x.2).m < b.m ∧ min a.l b.l ≤ (midM a b x.1 x.2).l ∧ (midM a b x.1 x.2).l ≤ max a.l b.l := by
  rcases midL_of h with ⟨-, rfl⟩ | ⟨-, rfl⟩ | ⟨-, rfl⟩ | ⟨-, rfl⟩ | ⟨-, rfl⟩ <;> simp only [midM] <;> omega
theorem mids_snoc {a b : Mk} (hab : a.m < b.m) : ∀ (k : Nat) (o : List Mk), ∃ o' z, mids (o ++ [a]) a b k = o' ++ [z] ∧ a.m ≤ z.m ∧ z.m < b.m
  | 0, o => ⟨o, a, rfl, by omega, hab⟩
  | k + 1, o => by
    obtain ⟨o', z, h, h1, h2⟩ := mids_snoc hab k o
    cases hk : midL[k]? with
    | none =>
      refine ⟨o', z, ?_, h1, h2⟩
      rw [← h]
      unfold mids
      have := List.getElem?_eq_none_iff.1 hk
      rw [List.take_of_length_le (by omega), List.take_of_length_le (by omega)]
    | some x =>
      have hin := midM_in hk hab
      rw [mids_succ hk, h, addTw_snoc]
      split
      · exact ⟨_, _, rfl, hin.1, hin.2.1⟩
      · exact ⟨_, _, rfl, h1, h2⟩
theorem mids_len {acc : List Mk} {a b : Mk} : ∀ (k : Nat), (mids acc a b k).length ≤ acc.length + k
  | 0 => by simp [mids]
  | k + 1 => by
    have := mids_len (acc := acc) (a := a) (b := b) k
    cases hk : midL[k]? with
    | none =>
      have hn := List.getElem?_eq_none_iff.1 hk
      unfold mids at this ⊢
      rw [List.take_of_length_le (by omega)] at this ⊢
      omega
    | some x =>
      rw [mids_succ hk, addTw]
      split
      · split <;> simp <;> omega
      · omega
theorem part_of {k : Nat} (h : k < 5) : ∃ p : Int, [D.int .i64 1, D.int .i64 3, D.int .i64 6, D.int .i64 9, D.int .i64 11][k]? = some (.int .i64 p) ∧ midL[k]? = some ((k : Int) + 1, p) ∧ 1 ≤ p ∧ p ≤ 11 := by
  have : k = 0 ∨ k = 1 ∨ k = 2 ∨ k = 3 ∨ k = 4 := by omega
  rcases this with rfl | rfl | rfl | rfl | rfl <;> exact ⟨_, rfl, rfl, by omega, by omega⟩
def TInv (g : Ga) (i : Nat) (acc : List Mk) : Prop := i ≤ g.marks.length ∧ acc.length ≤ 6 * i ∧ (i = 0 → acc = []) ∧
  ∀ j, i = j + 1 → ∃ o a, g.marks[j]? = some a ∧ acc = o ++ [a] ∧ twL g.marks = twGo acc a (g.marks.drop i)
theorem tinv_first {g : Ga} {b : Mk} (hm : g.marks[0]? = some b) : TInv g 1 [b] := by
  have := lt_of_some hm
  refine ⟨by omega, by simp, fun h => by omega, fun j hj => ?_⟩
  obtain rfl : j = 0 := by omega
  refine ⟨[], b, hm, rfl, ?_⟩
  have e := drop_of hm
  rw [List.drop_zero] at e
  rw [e]; rfl
theorem tinv_step {g : Ga} {j : Nat} {o : List Mk} {a b : Mk} (h : TInv g (j + 1) (o ++ [a])) (ha : g.marks[j]? = some a) (hb : g.marks[j + 1]? = some b) : TInv g (j + 2) (mids (o ++ [a]) a b 5 ++ [b]) := by
  have := lt_of_some hb
  obtain ⟨h1, h2, h3, h4⟩ := h
  have hl := mids_len (acc := o ++ [a]) (a := a) (b := b) 5
  refine ⟨by omega, by rw [List.length_append]; simp only [List.length_cons, List.length_nil]; omega, fun h => by omega, fun i hi => ?_⟩
  obtain rfl : i = j + 1 := by omega
  refine ⟨_, b, hb, rfl, ?_⟩
  obtain ⟨o', a', k1, k2, k3⟩ := h4 j rfl
  rw [ha] at k1; cases k1
  rw [k3, drop_of hb, twGo]
def twE (g : Ga) : Int := if gErr g ≠ 0 then gErr g else if 400 < (twL g.marks).length then 8 else 0
def twR (g : Ga) : Ga := if twE g = 0 then { g with marks := twL g.marks } else gzG
theorem tinv_end {g : Ga} {i : Nat} {acc : List Mk} (h : TInv g i acc) (hi : g.marks.length ≤ i) : twL g.marks = acc := by
  obtain ⟨h1, h2, h3, h4⟩ := h
  cases i with
  | zero =>
    rw [h3 rfl]
    have : g.marks = [] := List.eq_nil_of_length_eq_zero (by omega)
    rw [this]; rfl
  | succ j =>
    obtain ⟨o, a, -, -, k⟩ := h4 j rfl
    rw [k, List.drop_eq_nil_of_le hi]; rfl
def PInv (g : Ga) (i : Nat) (acc : List Mk) : Prop := i ≤ g.marks.length ∧ acc.length ≤ 6 * i ∧ (i = g.marks.length → acc = twL g.marks) ∧ ∀ a, g.marks[i]? = some a → twL g.marks = twGo (acc ++ [a]) a (g.marks.drop (i + 1))
theorem pinv_zero (g : Ga) : PInv g 0 [] := by
  refine ⟨by omega, by simp, fun h => ?_, fun a ha => ?_⟩
  · have : g.marks = [] := List.eq_nil_of_length_eq_zero (by omega)
    rw [this]; rfl
  · have e := drop_of ha
    rw [List.drop_zero] at e
    rw [e]; rfl
theorem pinv_step {g : Ga} {i : Nat} {acc : List Mk} {a b : Mk} (h : PInv g i acc) (ha : g.marks[i]? = some a) (hb : g.marks[i + 1]? = some b) : PInv g (i + 1) (mids (acc ++ [a]) a b 5) := by
  have := lt_of_some hb
  obtain ⟨h1, h2, h3, h4⟩ := h
  have hl := mids_len (acc := acc ++ [a]) (a := a) (b := b) 5
  refine ⟨by omega, by simp at hl; omega, fun h => by omega, fun x hx => ?_⟩
  rw [hb] at hx; cases hx
  rw [h4 a ha, drop_of hb, twGo]
theorem pinv_last {g : Ga} {i : Nat} {acc : List Mk} {a : Mk} (h : PInv g i acc) (ha : g.marks[i]? = some a) (hb : i + 1 = g.marks.length) : PInv g (i + 1) (acc ++ [a]) := by
  obtain ⟨h1, h2, h3, h4⟩ := h
  refine ⟨by omega, by simp; omega, fun _ => ?_, fun x hx => ?_⟩
  · rw [h4 a ha, List.drop_eq_nil_of_le (by omega)]; rfl
  · have := lt_of_some hx; omega
theorem part_ofR {k : Nat} (h : k < 5) : ∃ p : Int, [D.int .i64 0, D.int .i64 1, D.int .i64 3, D.int .i64 6, D.int .i64 9, D.int .i64 11][((k : Int) + 1).toNat]? = some (.int .i64 p) ∧ midL[k]? = some ((k : Int) + 1, p) ∧ 1 ≤ p ∧ p ≤ 11 := by
  have : k = 0 ∨ k = 1 ∨ k = 2 ∨ k = 3 ∨ k = 4 := by omega
  rcases this with rfl | rfl | rfl | rfl | rfl <;> exact ⟨_, rfl, rfl, by omega, by omega⟩
theorem asc_at {g : Ga} (hG : Good g) {i : Nat} {a b : Mk} (ha : g.marks[i]? = some a) (hb : g.marks[i + 1]? = some b) : a.m < b.m := by
  have := (List.pairwise_iff_getElem.1 hG.asc) i (i + 1) (lt_of_some ha) (lt_of_some hb) (by omega)
  rw [(List.getElem?_eq_some_iff.1 ha).2, (List.getElem?_eq_some_iff.1 hb).2] at this
  exact this
end Go.Proofs.Tryz
end

section
namespace Go.Proofs.Tryz
open Go Go.Vm
set_option maxRecDepth 20000
set_option maxHeartbeats 2000000
/-- A mark of the twelfths is a mark, or strictly between two. -/
def PE (l : List Mk) (m : Mk) : Prop := ∃ j a, l[j]? = some a ∧ (m = a ∨ ∃ b, l[j + 1]? = some b ∧ a.m < m.m ∧ m.m < b.m ∧ min a.l b.l ≤ m.l ∧ m.l ≤ max a.l b.l)
def Asc (l : List Mk) : Prop := l.Pairwise fun a b => a.m < b.m
theorem asc_snoc {l : List Mk} {n : Mk} (h : Asc l) (hn : ∀ m ∈ l, m.m < n.m) : Asc (l ++ [n]) := by
  unfold Asc
  rw [List.pairwise_append]
  exact ⟨h, List.pairwise_singleton _ _, fun a ha b hb => by rw [List.mem_singleton.1 hb]; exact hn a ha⟩
theorem asc_last {o : List Mk} {z : Mk} (h : Asc (o ++ [z])) : ∀ m ∈ o ++ [z], m.m ≤ z.m := by
  unfold Asc at h
  rw [List.pairwise_append] at h
  intro m hm
  rcases List.mem_append.1 hm with hm | hm
  · have := h.2.2 m hm z (by simp); omega
  · rw [List.mem_singleton.1 hm]; omega
theorem mids_good {l : List Mk} {a b : Mk} {j : Nat} (ha : l[j]? = some a) (hb : l[j + 1]? = some b) (hab : a.m < b.m) : ∀ (k : Nat) (o : List Mk), Asc (o ++ [a]) → (∀ m ∈ o ++ [a], PE l m) → Asc (mids (o ++ [a]) a b k) ∧ ∀ m ∈ mids (o ++ [a]) a b k, PE l m
  | 0, o, h1, h2 => ⟨h1, h2⟩
  | k + 1, o, h1, h2 => by
    obtain ⟨k1, k2⟩ := mids_good ha hb hab k o h1 h2
    obtain ⟨o', z, hz, hz1, hz2⟩ := mids_snoc hab k o
    cases hk : midL[k]? with
    | none =>
      have hn := List.getElem?_eq_none_iff.1 hk
      unfold mids at k1 k2 ⊢
      rw [List.take_of_length_le (by omega)] at k1 k2 ⊢
      exact ⟨k1, k2⟩
    | some x =>
      have hin := midM_in hk hab
      rw [mids_succ hk, hz, addTw_snoc]
      rw [hz] at k1 k2
      split
      · rename_i hlt
        refine ⟨asc_snoc k1 fun m hm => ?_, fun m hm => ?_⟩
        · have := asc_last k1 m hm; omega
        · rcases List.mem_append.1 hm with hm | hm
          · exact k2 m hm
          · rw [List.mem_singleton.1 hm]
            exact ⟨j, a, ha, .inr ⟨b, hb, by omega, hin.2.1, hin.2.2.1, hin.2.2.2⟩⟩
      · exact ⟨k1, k2⟩
theorem twGo_good {g : Ga} (hG : Good g) : ∀ (r : List Mk) (j : Nat) (o : List Mk) (a : Mk), g.marks[j]? = some a → g.marks.drop (j + 1) = r → Asc (o ++ [a]) → (∀ m ∈ o ++ [a], PE g.marks m) →
    Asc (twGo (o ++ [a]) a r) ∧ ∀ m ∈ twGo (o ++ [a]) a r, PE g.marks m
  | [], j, o, a, _, _, h1, h2 => ⟨h1, h2⟩
  | b :: r, j, o, a, ha, hr, h1, h2 => by
    have hb : g.marks[j + 1]? = some b := by
      have := congrArg List.head? hr
      rw [List.head?_drop] at this
      exact this
    have hab := asc_at hG ha hb
    obtain ⟨k1, k2⟩ := mids_good ha hb hab 5 o h1 h2
    obtain ⟨o', z, hz, hz1, hz2⟩ := mids_snoc hab 5 o
    have hdr := drop_of hb
    rw [hr] at hdr
    simp only [List.cons.injEq, true_and] at hdr
    simp only [twGo]
    refine twGo_good hG r (j + 1) _ b hb hdr.symm (asc_snoc k1 fun m hm => ?_) fun m hm => ?_
    · rw [hz] at hm k1
      have := asc_last k1 m hm; omega
    · rcases List.mem_append.1 hm with hm | hm
      · exact k2 m hm
      · rw [List.mem_singleton.1 hm]; exact ⟨j + 1, b, hb, .inl rfl⟩
theorem twL_good {g : Ga} (hG : Good g) : Asc (twL g.marks) ∧ ∀ m ∈ twL g.marks, PE g.marks m := by
  cases h : g.marks with
  | nil => exact ⟨.nil, fun m hm => by cases hm⟩
  | cons a r =>
    have ha : g.marks[0]? = some a := by rw [h]; rfl
    have := twGo_good hG r 0 [] a ha (by rw [h]; rfl) (List.pairwise_singleton _ _) (fun m hm => by rw [List.mem_singleton.1 hm]; exact ⟨0, a, ha, .inl rfl⟩)
    rw [h] at this
    exact this
/-- The mark that holds a minute. -/
theorem pe_at {g : Ga} (hG : Good g) {m : Mk} (h : PE g.marks m) {k : Nat} {x : Mk} (hk : g.marks[k]? = some x) (h1 : x.m ≤ m.m) (h2 : ∀ y, g.marks[k + 1]? = some y → m.m < y.m) :
    m = x ∨ (m.m ≠ x.m ∧ ∃ b, g.marks[k + 1]? = some b ∧ min x.l b.l ≤ m.l ∧ m.l ≤ max x.l b.l) := by
  obtain ⟨j, a, ha, h⟩ := h
  have lt : ∀ {i j : Nat} {p q : Mk}, g.marks[i]? = some p → g.marks[j]? = some q → i < j → p.m < q.m := by
    intro i j p q hp hq hij
    have := (List.pairwise_iff_getElem.1 hG.asc) i j (lt_of_some hp) (lt_of_some hq) hij
    rw [(List.getElem?_eq_some_iff.1 hp).2, (List.getElem?_eq_some_iff.1 hq).2] at this
    exact this
  have hnext : ∀ {i : Nat} {p : Mk}, g.marks[i]? = some p → k < i → m.m < p.m := by
    intro i p hp hki
    obtain ⟨y, hy⟩ := some_of_lt (l := g.marks) (i := k + 1) (by have := lt_of_some hp; omega)
    have := h2 y hy
    rcases Nat.lt_or_ge (k + 1) i with h | h
    · have := lt hy hp h; omega
    · obtain rfl : i = k + 1 := by omega
      rw [hp] at hy; cases hy; exact this
  rcases h with rfl | ⟨b, hb, h3, h4, h5⟩
  · left
    rcases Nat.lt_trichotomy j k with h | rfl | h
    · have := lt ha hk h; omega
    · exact Option.some.inj (ha.symm.trans hk)
    · have := hnext ha h; omega
  · right
    have : j = k := by
      rcases Nat.lt_trichotomy j k with h | rfl | h
      · rcases Nat.lt_or_ge (j + 1) k with h' | h'
        · have := lt hb hk h'; omega
        · obtain rfl : k = j + 1 := by omega
          rw [hb] at hk; cases hk; omega
      · rfl
      · have := hnext ha h; omega
    subst this
    rw [ha] at hk; cases hk
    exact ⟨by omega, b, hb, h5⟩
theorem twR_ok {g : Ga} (h : twE g = 0) : gErr g = 0 ∧ twR g = { g with marks := twL g.marks } ∧ (twL g.marks).length ≤ 400 := by
  have h' := h
  unfold twE at h'
  split at h'
  · contradiction
  · rename_i h0
    split at h'
    · cases h'
    · exact ⟨by simpa using h0, by rw [twR, if_pos h], by omega⟩
theorem tw_first {g : Ga} (hG : Good g) {m : Mk} (h : PE g.marks m) : ∃ x, g.marks[0]? = some x ∧ x.m ≤ m.m := by
  obtain ⟨j, a, ha, h⟩ := h
  obtain ⟨x, hx⟩ := some_of_lt (l := g.marks) (i := 0) (by have := lt_of_some ha; omega)
  refine ⟨x, hx, ?_⟩
  have : x.m ≤ a.m := by
    rcases Nat.eq_zero_or_pos j with rfl | hj
    · rw [hx] at ha; cases ha; omega
    · have := (List.pairwise_iff_getElem.1 hG.asc) 0 j (lt_of_some hx) (lt_of_some ha) hj
      rw [(List.getElem?_eq_some_iff.1 hx).2, (List.getElem?_eq_some_iff.1 ha).2] at this
      omega
  rcases h with rfl | ⟨b, -, h, -⟩ <;> omega
end Go.Proofs.Tryz
end
