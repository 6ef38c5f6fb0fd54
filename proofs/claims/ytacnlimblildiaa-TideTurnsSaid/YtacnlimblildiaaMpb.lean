/- Texts TwF TuA TwG TwH TwI TuB TuC LyT, joined; what is not needed is left out. -/
import Derived.Test.YtacnlimblildiaaMpa
import Derived.Test.YtacnlimblildiaaMgI
import Derived.Test.YtacnlimblildiaaProg
import Derived.Shelf.SlLaysF0
section
namespace Go.Proofs.Try
open Go Go.Vm
set_option maxRecDepth 20000
set_option maxHeartbeats 2000000
def gzG : Ga := ⟨⟨#[]⟩, 0, 0, []⟩
open Classical in
noncomputable def eqB {α : Type} (a b : α) : Bool := decide (a = b)
theorem eqB_self {α : Type} (a : α) : eqB a a = true := by simp [eqB]
theorem eqB_of {α : Type} {a b : α} (h : a = b) : eqB a b = true := by simp [eqB, h]
theorem eqB_ne {α : Type} {a b : α} (h : a ≠ b) : eqB a b = false := by simp [eqB, h]
theorem mk_ext {m n : Mk} (h1 : m.m = n.m) (h2 : m.l = n.l) : m = n := by cases m; cases n; simp_all
theorem ga_ext {m n : Ga} (h1 : m.name = n.name) (h2 : m.x = n.x) (h3 : m.err = n.err) (h4 : m.marks = n.marks) : m = n := by cases m; cases n; simp_all
theorem take_succ_eq {α : Type} {a b : List α} {i : Nat} {x : α} (ha : a[i]? = some x) (hb : b[i]? = some x) (h : a.take i = b.take i) : a.take (i + 1) = b.take (i + 1) := by
  rw [List.take_add_one, List.take_add_one, h, ha, hb]
theorem eq_of_take {α : Type} {a b : List α} {i : Nat} (h : a.take i = b.take i) (ha : a.length ≤ i) (hb : b.length ≤ i) : a = b := by
  rwa [List.take_of_length_le ha, List.take_of_length_le hb] at h
theorem ev_SameGauges (a b : List Ga) (hn : a.length < 1000000) (hm : ∀ g ∈ a, g.marks.length < 1000000) : Ev Try.prog 27 [.sl 4 (a.map gD), .sl 4 (b.map gD)] (.bool (eqB a b)) := by
  have hla : (a.map gD).length = a.length := List.length_map _
  have hlb : (b.map gD).length = b.length := List.length_map _
  refine ev_of_awp tysOk mixed (fn := Try.f27) Try.func27 rfl rfl rfl ?_
  conv => whnf
  repeat' (first | ((with_reducible refine Split.of_true ?_); conv => whnf) | ((with_reducible refine Split.of_false ?_); conv => whnf) | ((with_reducible refine Split.neg ?_)) | ((with_reducible refine Split.is_true ?_ ?_); decide; conv => whnf) | ((with_reducible refine Split.is_false ?_ ?_); decide; conv => whnf) | ((with_reducible refine Split.nez (fun _ => ?_) (fun _ => ?_)) <;> conv => whnf) | ((with_reducible refine Split.eqz (fun _ => ?_) (fun _ => ?_)) <;> conv => whnf) | ((with_reducible refine Split.and ?_)) | ((with_reducible refine Split.or ?_)) | ((with_reducible refine Split.streq (fun _ => ?_) (fun _ => ?_)) <;> conv => whnf) | ((with_reducible refine Split.dec (fun _ => ?_) (fun _ => ?_)) <;> conv => whnf) | ((with_reducible refine Split.mk (fun _ => ?_) (fun _ => ?_)) <;> conv => whnf) | ((with_reducible refine NilK.mk (fun _ => ?_) ?_) <;> conv => whnf) | ((with_reducible refine AltK.l ?_); (conv => whnf); (with_reducible refine Need.mk ?_ ?_); (first | omega | (refine ⟨?_, ?_⟩ <;> simp <;> omega) | (simp; omega)); conv => whnf) | ((with_reducible refine Need.mk ?_ ?_); (first | omega | rfl | decide | (refine ⟨?_, ?_⟩ <;> simp <;> omega) | (simp; omega)); conv => whnf) | ((with_reducible refine Wr.quo ?_ ?_ ?_ ?_); omega; omega; omega; conv => whnf) | ((with_reducible refine Wr.inr ?_ ?_); (first | omega | (simp; omega)); conv => whnf) | ((with_reducible refine Wr.inu ?_ ?_); omega; conv => whnf) | (exfalso; first | omega | contradiction))
  · exact congrArg D.bool (eqB_ne fun e => by subst e; omega).symm
  refine LoopK.ov (fun i : Nat => i ≤ a.length ∧ a.take i = b.take i)
    (fun i => [(5, .d (.int .i64 i))]) [] (fun _ => []) (fun i => a.length - i) 0 (by simp) (by refine ⟨?_, ?_, rfl⟩ <;> (repeat' (first | exact True.intro | exact rfl | refine ⟨?_, ?_⟩ | (intro h; cases h; done) | (intro h; exact h) | exact map_snoc | (refine own_congr ?_; simp; done) | (refine int_congr ?_; (first | omega | (simp; omega))) | (simp; done)))) ?_
  rintro i ⟨hi, ht⟩
  have hab : a.length = b.length := by omega
  have hxy : (i : Int) < a.length → (∃ x, a[i]? = some x) ∧ ∃ y, b[i]? = some y := fun h => ⟨some_of_lt (by omega), some_of_lt (by omega)⟩
  conv => whnf
  repeat' (first | ((with_reducible refine Split.of_true ?_); conv => whnf) | ((with_reducible refine Split.of_false ?_); conv => whnf) | ((with_reducible refine Split.neg ?_)) | ((with_reducible refine Split.is_true ?_ ?_); decide; conv => whnf) | ((with_reducible refine Split.is_false ?_ ?_); decide; conv => whnf) | ((with_reducible refine Split.nez (fun _ => ?_) (fun _ => ?_)) <;> conv => whnf) | ((with_reducible refine Split.eqz (fun _ => ?_) (fun _ => ?_)) <;> conv => whnf) | ((with_reducible refine Split.and ?_)) | ((with_reducible refine Split.or ?_)) | ((with_reducible refine Split.streq (fun _ => ?_) (fun _ => ?_)) <;> conv => whnf) | ((with_reducible refine Split.dec (fun _ => ?_) (fun _ => ?_)) <;> conv => whnf) | ((with_reducible refine Split.mk (fun _ => ?_) (fun _ => ?_)) <;> conv => whnf) | ((with_reducible refine NilK.mk (fun _ => ?_) ?_) <;> conv => whnf) | ((with_reducible refine AltK.l ?_); (conv => whnf); (with_reducible refine Need.mk ?_ ?_); (first | omega | (refine ⟨?_, ?_⟩ <;> simp <;> omega) | (simp; omega)); conv => whnf) | ((with_reducible refine Need.mk ?_ ?_); (first | omega | rfl | decide | (refine ⟨?_, ?_⟩ <;> simp <;> omega) | (simp; omega)); conv => whnf) | ((with_reducible refine Wr.quo ?_ ?_ ?_ ?_); omega; omega; omega; conv => whnf) | ((with_reducible refine Wr.inr ?_ ?_); (first | omega | (simp; omega)); conv => whnf) | ((with_reducible refine Wr.inu ?_ ?_); omega; conv => whnf) | (exfalso; first | omega | contradiction))
  · obtain ⟨⟨x, hx⟩, y, hy⟩ := hxy (by omega)
    have hxm := hm x (List.mem_of_getElem? hx)
    have hlx : (x.marks.map mD).length = x.marks.length := List.length_map _
    have hly : (y.marks.map mD).length = y.marks.length := List.length_map _
    have hne : x ≠ y → eqB a b = false := fun h => eqB_ne fun e => h (by subst e; exact Option.some.inj (hx.symm.trans hy))
    conv => whnf
    repeat' (first | ((refine PickE.map i hy (by omega) ?_); conv => whnf) | ((refine PickE.map i hx (by omega) ?_); conv => whnf) | ((with_reducible refine Split.of_true ?_); conv => whnf) | ((with_reducible refine Split.of_false ?_); conv => whnf) | ((with_reducible refine Split.neg ?_)) | ((with_reducible refine Split.is_true ?_ ?_); decide; conv => whnf) | ((with_reducible refine Split.is_false ?_ ?_); decide; conv => whnf) | ((with_reducible refine Split.nez (fun _ => ?_) (fun _ => ?_)) <;> conv => whnf) | ((with_reducible refine Split.eqz (fun _ => ?_) (fun _ => ?_)) <;> conv => whnf) | ((with_reducible refine Split.and ?_)) | ((with_reducible refine Split.or ?_)) | ((with_reducible refine Split.streq (fun _ => ?_) (fun _ => ?_)) <;> conv => whnf) | ((with_reducible refine Split.dec (fun _ => ?_) (fun _ => ?_)) <;> conv => whnf) | ((with_reducible refine Split.mk (fun _ => ?_) (fun _ => ?_)) <;> conv => whnf) | ((with_reducible refine NilK.mk (fun _ => ?_) ?_) <;> conv => whnf) | ((with_reducible refine AltK.l ?_); (conv => whnf); (with_reducible refine Need.mk ?_ ?_); (first | omega | (refine ⟨?_, ?_⟩ <;> simp <;> omega) | (simp; omega)); conv => whnf) | ((with_reducible refine Need.mk ?_ ?_); (first | omega | rfl | decide | (refine ⟨?_, ?_⟩ <;> simp <;> omega) | (simp; omega)); conv => whnf) | ((with_reducible refine Wr.quo ?_ ?_ ?_ ?_); omega; omega; omega; conv => whnf) | ((with_reducible refine Wr.inr ?_ ?_); (first | omega | (simp; omega)); conv => whnf) | ((with_reducible refine Wr.inu ?_ ?_); omega; conv => whnf) | (exfalso; first | omega | contradiction))
    all_goals first
      | exact congrArg D.bool (hne fun e => by subst e; omega).symm
      | exact congrArg D.bool (hne fun e => by subst e; contradiction).symm
      | skip
    refine LoopK.ov (fun k : Nat => k ≤ x.marks.length ∧ x.marks.take k = y.marks.take k)
      (fun k => [(6, .d (.int .i64 k))]) [] (fun _ => []) (fun k => x.marks.length - k) 0 (by simp) (by refine ⟨?_, ?_, rfl⟩ <;> (repeat' (first | exact True.intro | exact rfl | refine ⟨?_, ?_⟩ | (intro h; cases h; done) | (intro h; exact h) | exact map_snoc | (refine own_congr ?_; simp; done) | (refine int_congr ?_; (first | omega | (simp; omega))) | (simp; done)))) ?_
    rintro k ⟨hk, hkt⟩
    have hxk : (k : Int) < x.marks.length → (∃ m, x.marks[k]? = some m) ∧ ∃ n, y.marks[k]? = some n := fun h => ⟨some_of_lt (by omega), some_of_lt (by omega)⟩
    conv => whnf
    repeat' (first | ((refine PickE.map i hx (by omega) ?_); conv => whnf) | ((with_reducible refine Split.of_true ?_); conv => whnf) | ((with_reducible refine Split.of_false ?_); conv => whnf) | ((with_reducible refine Split.neg ?_)) | ((with_reducible refine Split.is_true ?_ ?_); decide; conv => whnf) | ((with_reducible refine Split.is_false ?_ ?_); decide; conv => whnf) | ((with_reducible refine Split.nez (fun _ => ?_) (fun _ => ?_)) <;> conv => whnf) | ((with_reducible refine Split.eqz (fun _ => ?_) (fun _ => ?_)) <;> conv => whnf) | ((with_reducible refine Split.and ?_)) | ((with_reducible refine Split.or ?_)) | ((with_reducible refine Split.streq (fun _ => ?_) (fun _ => ?_)) <;> conv => whnf) | ((with_reducible refine Split.dec (fun _ => ?_) (fun _ => ?_)) <;> conv => whnf) | ((with_reducible refine Split.mk (fun _ => ?_) (fun _ => ?_)) <;> conv => whnf) | ((with_reducible refine NilK.mk (fun _ => ?_) ?_) <;> conv => whnf) | ((with_reducible refine AltK.l ?_); (conv => whnf); (with_reducible refine Need.mk ?_ ?_); (first | omega | (refine ⟨?_, ?_⟩ <;> simp <;> omega) | (simp; omega)); conv => whnf) | ((with_reducible refine Need.mk ?_ ?_); (first | omega | rfl | decide | (refine ⟨?_, ?_⟩ <;> simp <;> omega) | (simp; omega)); conv => whnf) | ((with_reducible refine Wr.quo ?_ ?_ ?_ ?_); omega; omega; omega; conv => whnf) | ((with_reducible refine Wr.inr ?_ ?_); (first | omega | (simp; omega)); conv => whnf) | ((with_reducible refine Wr.inu ?_ ?_); omega; conv => whnf) | (exfalso; first | omega | contradiction))
    · obtain ⟨⟨m, hm⟩, n, hn⟩ := hxk (by omega)
      have hne2 : m ≠ n → eqB a b = false := fun h => hne fun e => h (by subst e; exact Option.some.inj (hm.symm.trans hn))
      conv => whnf
      repeat' (first | ((refine PickE.map k hn (by omega) ?_); conv => whnf) | ((refine PickE.map k hm (by omega) ?_); conv => whnf) | ((refine PickE.map i hy (by omega) ?_); conv => whnf) | ((refine PickE.map i hx (by omega) ?_); conv => whnf) | ((with_reducible refine Split.of_true ?_); conv => whnf) | ((with_reducible refine Split.of_false ?_); conv => whnf) | ((with_reducible refine Split.neg ?_)) | ((with_reducible refine Split.is_true ?_ ?_); decide; conv => whnf) | ((with_reducible refine Split.is_false ?_ ?_); decide; conv => whnf) | ((with_reducible refine Split.nez (fun _ => ?_) (fun _ => ?_)) <;> conv => whnf) | ((with_reducible refine Split.eqz (fun _ => ?_) (fun _ => ?_)) <;> conv => whnf) | ((with_reducible refine Split.and ?_)) | ((with_reducible refine Split.or ?_)) | ((with_reducible refine Split.streq (fun _ => ?_) (fun _ => ?_)) <;> conv => whnf) | ((with_reducible refine Split.dec (fun _ => ?_) (fun _ => ?_)) <;> conv => whnf) | ((with_reducible refine Split.mk (fun _ => ?_) (fun _ => ?_)) <;> conv => whnf) | ((with_reducible refine NilK.mk (fun _ => ?_) ?_) <;> conv => whnf) | ((with_reducible refine AltK.l ?_); (conv => whnf); (with_reducible refine Need.mk ?_ ?_); (first | omega | (refine ⟨?_, ?_⟩ <;> simp <;> omega) | (simp; omega)); conv => whnf) | ((with_reducible refine Need.mk ?_ ?_); (first | omega | rfl | decide | (refine ⟨?_, ?_⟩ <;> simp <;> omega) | (simp; omega)); conv => whnf) | ((with_reducible refine Wr.quo ?_ ?_ ?_ ?_); omega; omega; omega; conv => whnf) | ((with_reducible refine Wr.inr ?_ ?_); (first | omega | (simp; omega)); conv => whnf) | ((with_reducible refine Wr.inu ?_ ?_); omega; conv => whnf) | (exfalso; first | omega | contradiction))
      · have e : m = n := mk_ext (by assumption) (by assumption)
        subst e
        exact Again.au (k + 1) ⟨by omega, take_succ_eq hm hn hkt⟩ (by omega) (by refine ⟨?_, ?_, rfl⟩ <;> (repeat' (first | exact True.intro | exact rfl | refine ⟨?_, ?_⟩ | (intro h; cases h; done) | (intro h; exact h) | exact map_snoc | (refine own_congr ?_; simp; done) | (refine int_congr ?_; (first | omega | (simp; omega))) | (simp; done))))
      all_goals exact congrArg D.bool (hne2 fun e => by subst e; contradiction).symm
    · have e : x = y := ga_ext (by assumption) (by assumption) (by assumption) (eq_of_take hkt (by omega) (by omega))
      subst e
      exact Again.au (i + 1) ⟨by omega, take_succ_eq hx hy ht⟩ (by omega) (by refine ⟨?_, ?_, rfl⟩ <;> (repeat' (first | exact True.intro | exact rfl | refine ⟨?_, ?_⟩ | (intro h; cases h; done) | (intro h; exact h) | exact map_snoc | (refine own_congr ?_; simp; done) | (refine int_congr ?_; (first | omega | (simp; omega))) | (simp; done))))
  · exact congrArg D.bool (eqB_of (eq_of_take ht (by omega) (by omega))).symm
theorem eqB_one {α : Type} (a b : α) : eqB [a] [b] = eqB a b := by
  by_cases h : a = b
  · rw [eqB_of h, eqB_of (by rw [h])]
  · rw [eqB_ne h, eqB_ne (by simpa using h)]
theorem ev_same (a b : Ga) (h : a.marks.length < 1000000) : Ev Try.prog 9 [gD a, gD b] (.bool (eqB a b)) := by
  have hs := ev_SameGauges [a] [b] (by simp) (by simpa using h)
  rw [eqB_one] at hs
  refine ev_of_awp tysOk mixed (fn := Try.f9) Try.func9 rfl rfl rfl ?_
  conv => whnf
  repeat' (first | ((with_reducible refine Split.of_true ?_); conv => whnf) | ((with_reducible refine Split.of_false ?_); conv => whnf) | ((with_reducible refine Split.neg ?_)) | ((with_reducible refine Split.is_true ?_ ?_); decide; conv => whnf) | ((with_reducible refine Split.is_false ?_ ?_); decide; conv => whnf) | ((with_reducible refine Split.nez (fun _ => ?_) (fun _ => ?_)) <;> conv => whnf) | ((with_reducible refine Split.eqz (fun _ => ?_) (fun _ => ?_)) <;> conv => whnf) | ((with_reducible refine Split.and ?_)) | ((with_reducible refine Split.or ?_)) | ((with_reducible refine Split.streq (fun _ => ?_) (fun _ => ?_)) <;> conv => whnf) | ((with_reducible refine Split.dec (fun _ => ?_) (fun _ => ?_)) <;> conv => whnf) | ((with_reducible refine Split.mk (fun _ => ?_) (fun _ => ?_)) <;> conv => whnf) | ((with_reducible refine NilK.mk (fun _ => ?_) ?_) <;> conv => whnf) | ((with_reducible refine AltK.l ?_); (conv => whnf); (with_reducible refine Need.mk ?_ ?_); (first | omega | (refine ⟨?_, ?_⟩ <;> simp <;> omega) | (simp; omega)); conv => whnf) | ((with_reducible refine Need.mk ?_ ?_); (first | omega | rfl | decide | (refine ⟨?_, ?_⟩ <;> simp <;> omega) | (simp; omega)); conv => whnf) | ((with_reducible refine Wr.quo ?_ ?_ ?_ ?_); omega; omega; omega; conv => whnf) | ((with_reducible refine Wr.inr ?_ ?_); (first | omega | (simp; omega)); conv => whnf) | ((with_reducible refine Wr.inu ?_ ?_); omega; conv => whnf) | ((with_reducible refine AltK.l ?_); (conv => whnf); (first | (refine CallK.mk _ (hs) ?_)); conv => whnf) | (exfalso; first | omega | contradiction))
  rfl
theorem ev_marks (a b : List Mk) (h : a.length < 1000000) : Ev Try.prog 14 [.sl 2 (a.map mD), .sl 2 (b.map mD)] (.bool (eqB a b)) := by
  have hs := ev_same { gzG with marks := a } { gzG with marks := b } h
  have e : eqB { gzG with marks := a } { gzG with marks := b } = eqB a b := by
    by_cases h : a = b
    · rw [eqB_of h, eqB_of (by rw [h])]
    · rw [eqB_ne h, eqB_ne (by simpa using h)]
  rw [e] at hs
  refine ev_of_awp tysOk mixed (fn := Try.f14) Try.func14 rfl rfl rfl ?_
  conv => whnf
  repeat' (first | ((with_reducible refine Split.of_true ?_); conv => whnf) | ((with_reducible refine Split.of_false ?_); conv => whnf) | ((with_reducible refine Split.neg ?_)) | ((with_reducible refine Split.is_true ?_ ?_); decide; conv => whnf) | ((with_reducible refine Split.is_false ?_ ?_); decide; conv => whnf) | ((with_reducible refine Split.nez (fun _ => ?_) (fun _ => ?_)) <;> conv => whnf) | ((with_reducible refine Split.eqz (fun _ => ?_) (fun _ => ?_)) <;> conv => whnf) | ((with_reducible refine Split.and ?_)) | ((with_reducible refine Split.or ?_)) | ((with_reducible refine Split.streq (fun _ => ?_) (fun _ => ?_)) <;> conv => whnf) | ((with_reducible refine Split.dec (fun _ => ?_) (fun _ => ?_)) <;> conv => whnf) | ((with_reducible refine Split.mk (fun _ => ?_) (fun _ => ?_)) <;> conv => whnf) | ((with_reducible refine NilK.mk (fun _ => ?_) ?_) <;> conv => whnf) | ((with_reducible refine AltK.l ?_); (conv => whnf); (with_reducible refine Need.mk ?_ ?_); (first | omega | (refine ⟨?_, ?_⟩ <;> simp <;> omega) | (simp; omega)); conv => whnf) | ((with_reducible refine Need.mk ?_ ?_); (first | omega | rfl | decide | (refine ⟨?_, ?_⟩ <;> simp <;> omega) | (simp; omega)); conv => whnf) | ((with_reducible refine Wr.quo ?_ ?_ ?_ ?_); omega; omega; omega; conv => whnf) | ((with_reducible refine Wr.inr ?_ ?_); (first | omega | (simp; omega)); conv => whnf) | ((with_reducible refine Wr.inu ?_ ?_); omega; conv => whnf) | ((with_reducible refine AltK.l ?_); (conv => whnf); (first | (refine CallK.mk _ (hs) ?_)); conv => whnf) | (exfalso; first | omega | contradiction))
  rfl
end Go.Proofs.Try
end

section
namespace Go.Proofs.Try
open Go Go.Vm
/-! High and low waters: plain law. -/
def abv (low : Bool) (a b : Int) : Bool := if low then decide (a < b) else decide (a > b)
/-- The next level that differs. -/
def nxD (v : Int) (r : List Mk) : Option Int := (r.find? fun n => n.l != v).map Mk.l
def okO (low : Bool) (v : Int) : Option Int → Bool
  | none => true
  | some u => abv low v u
/-- The turns behind a level. -/
def tnS (low : Bool) : Option Int → List Mk → List Mk
  | _, [] => []
  | p, m :: r => if (okO low m.l p && okO low m.l (nxD m.l r)) = true then m :: tnS low (some m.l) r else tnS low (some m.l) r
theorem nxD_cons (v : Int) (m : Mk) (r : List Mk) : nxD v (m :: r) = if m.l = v then nxD v r else some m.l := by
  unfold nxD
  rw [List.find?_cons]
  by_cases h : m.l = v
  · rw [if_pos h]; simp [h]
  · rw [if_neg h]
    have : (m.l != v) = true := by simpa using h
    rw [this]; rfl
theorem tn_sub (low : Bool) : ∀ (l : List Mk) (p : Option Int), (tnS low p l).Sublist l
  | [], _ => List.Sublist.slnil
  | m :: r, p => by
    rw [tnS]
    split
    · exact (tn_sub low r _).cons_cons m
    · exact (tn_sub low r _).cons m
/-- The numbers of turns behind a level: none, or high and low ones alternate. -/
theorem tn_cnt : ∀ (l : List Mk) (u : Int), (nxD u l = none → tnS false (some u) l = [] ∧ tnS true (some u) l = []) ∧
    (∀ w, nxD u l = some w → u < w → (tnS true (some u) l).length ≤ (tnS false (some u) l).length ∧ (tnS false (some u) l).length ≤ (tnS true (some u) l).length + 1) ∧
    (∀ w, nxD u l = some w → w < u → (tnS false (some u) l).length ≤ (tnS true (some u) l).length ∧ (tnS true (some u) l).length ≤ (tnS false (some u) l).length + 1)
  | [], u => by
    refine ⟨fun _ => ⟨rfl, rfl⟩, fun w h => ?_, fun w h => ?_⟩ <;> cases h
  | m :: r, u => by
    obtain ⟨i1, i2, i3⟩ := tn_cnt r m.l
    rw [nxD_cons]
    by_cases e : m.l = u
    · rw [if_pos e]
      have e2 : ∀ low, tnS low (some u) (m :: r) = tnS low (some u) r := fun low => by
        rw [tnS, if_neg, e]
        have : okO low m.l (some u) = false := by rw [e]; cases low <;> simp [okO, abv]
        rw [this, Bool.false_and]; exact Bool.false_ne_true
      rw [e2, e2]
      rw [e] at i1 i2 i3
      exact ⟨i1, i2, i3⟩
    · rw [if_neg e]
      have up : ∀ (h : u < m.l), tnS true (some u) (m :: r) = tnS true (some m.l) r := fun h => by
        rw [tnS, if_neg]
        have : okO true m.l (some u) = false := by simp [okO, abv]; omega
        rw [this, Bool.false_and]; exact Bool.false_ne_true
      have dn : ∀ (h : m.l < u), tnS false (some u) (m :: r) = tnS false (some m.l) r := fun h => by
        rw [tnS, if_neg]
        have : okO false m.l (some u) = false := by simp [okO, abv]; omega
        rw [this, Bool.false_and]; exact Bool.false_ne_true
      refine ⟨fun h => absurd h (by simp), fun w hw hlt => ?_, fun w hw hlt => ?_⟩
      · cases hw
        rw [up hlt, tnS]
        have ho : okO false m.l (some u) = true := by simp [okO, abv]; omega
        rw [ho, Bool.true_and]
        cases hn : nxD m.l r with
        | none =>
          obtain ⟨a, b⟩ := i1 hn
          rw [if_pos (show okO false m.l none = true from rfl), a, b]; simp
        | some w =>
          by_cases hc : w < m.l
          · have := i3 w hn hc
            rw [if_pos (by simp [okO, abv]; omega), List.length_cons]; omega
          · by_cases hc2 : m.l < w
            · have := i2 w hn hc2
              rw [if_neg (by simp [okO, abv]; omega)]; omega
            · have : w ≠ m.l := by
                unfold nxD at hn
                rw [Option.map_eq_some_iff] at hn
                obtain ⟨x, hx, rfl⟩ := hn
                simpa using List.find?_some hx
              omega
      · cases hw
        rw [dn hlt, tnS]
        have ho : okO true m.l (some u) = true := by simp [okO, abv]; omega
        rw [ho, Bool.true_and]
        cases hn : nxD m.l r with
        | none =>
          obtain ⟨a, b⟩ := i1 hn
          rw [if_pos (show okO true m.l none = true from rfl), a, b]; simp
        | some w =>
          by_cases hc : m.l < w
          · have := i2 w hn hc
            rw [if_pos (by simp [okO, abv]; omega), List.length_cons]; omega
          · by_cases hc2 : w < m.l
            · have := i3 w hn hc2
              rw [if_neg (by simp [okO, abv]; omega)]; omega
            · have : w ≠ m.l := by
                unfold nxD at hn
                rw [Option.map_eq_some_iff] at hn
                obtain ⟨x, hx, rfl⟩ := hn
                simpa using List.find?_some hx
              omega
theorem nx_ne {v w : Int} {r : List Mk} (h : nxD v r = some w) : w ≠ v := by
  unfold nxD at h
  rw [Option.map_eq_some_iff] at h
  obtain ⟨x, hx, rfl⟩ := h
  simpa using List.find?_some hx
/-- High and low waters alternate. -/
theorem tn_alt (l : List Mk) : (tnS false none l).length ≤ (tnS true none l).length + 1 ∧ (tnS true none l).length ≤ (tnS false none l).length + 1 := by
  cases l with
  | nil => simp [tnS]
  | cons m r =>
    obtain ⟨i1, i2, i3⟩ := tn_cnt r m.l
    rw [tnS, tnS]
    simp only [okO, Bool.true_and]
    cases hn : nxD m.l r with
    | none =>
      obtain ⟨a, b⟩ := i1 hn
      rw [if_pos rfl, if_pos rfl, a, b]; simp
    | some w =>
      have := nx_ne hn
      by_cases hc : m.l < w
      · have := i2 w hn hc
        rw [if_neg (by simp [abv]; omega), if_pos (by simp [abv]; omega), List.length_cons]; omega
      · have := i3 w hn (by omega)
        rw [if_pos (by simp [abv]; omega), if_neg (by simp [abv]; omega), List.length_cons]; omega
def ascM (l : List Mk) : Prop := l.Pairwise fun a b => a.m < b.m
theorem asc_inj {l : List Mk} (h : ascM l) : ∀ x ∈ l, ∀ y ∈ l, x.m = y.m → x = y := by
  intro x hx y hy e
  obtain ⟨i, hi, rfl⟩ := List.getElem_of_mem hx
  obtain ⟨j, hj, rfl⟩ := List.getElem_of_mem hy
  rcases Nat.lt_trichotomy i j with h1 | h1 | h1
  · have := List.pairwise_iff_getElem.1 h i j hi hj h1; omega
  · subst h1; rfl
  · have := List.pairwise_iff_getElem.1 h j i hj hi h1; omega
theorem tn_dis : ∀ {l : List Mk} {u : Int}, ascM l → ∀ x, x ∈ tnS false (some u) l → x ∈ tnS true (some u) l → False
  | [], _, _, _, h, _ => by cases h
  | m :: r, u, ha, x, h1, h2 => by
    obtain ⟨a1, a2⟩ := List.pairwise_cons.1 ha
    have hm : ∀ low p, x ∈ tnS low p r → x ≠ m := fun low p h e => by
      subst e
      have := a1 x ((tn_sub low r p).subset h)
      omega
    rw [tnS] at h1 h2
    have key : ∀ low, (if (okO low m.l (some u) && okO low m.l (nxD m.l r)) = true then m :: tnS low (some m.l) r else tnS low (some m.l) r) = tnS low (some u) (m :: r) := fun low => by rw [tnS]
    have h1' : x ∈ tnS false (some m.l) r ∨ (x = m ∧ okO false m.l (some u) = true) := by
      split at h1
      · rename_i hc
        rcases List.mem_cons.1 h1 with e | e
        · exact .inr ⟨e, by simp at hc; exact hc.1⟩
        · exact .inl e
      · exact .inl h1
    have h2' : x ∈ tnS true (some m.l) r ∨ (x = m ∧ okO true m.l (some u) = true) := by
      split at h2
      · rename_i hc
        rcases List.mem_cons.1 h2 with e | e
        · exact .inr ⟨e, by simp at hc; exact hc.1⟩
        · exact .inl e
      · exact .inl h2
    rcases h1' with h1' | ⟨e1, o1⟩ <;> rcases h2' with h2' | ⟨e2, o2⟩
    · exact tn_dis a2 x h1' h2'
    · exact hm _ _ h1' e2
    · exact hm _ _ h2' e1
    · simp [okO, abv] at o1 o2; omega
/-- A flat record has one mark that is both; else none is. -/
theorem tn_two (l : List Mk) (ha : ascM l) : (∃ m, tnS false none l = [m] ∧ tnS true none l = [m]) ∨ ∀ x, x ∈ tnS false none l → x ∈ tnS true none l → False := by
  cases l with
  | nil => exact .inr fun x h => by cases h
  | cons m r =>
    obtain ⟨i1, -, -⟩ := tn_cnt r m.l
    obtain ⟨a1, a2⟩ := List.pairwise_cons.1 ha
    rw [tnS, tnS]
    simp only [okO, Bool.true_and]
    cases hn : nxD m.l r with
    | none =>
      obtain ⟨a, b⟩ := i1 hn
      rw [if_pos rfl, if_pos rfl, a, b]
      exact .inl ⟨m, rfl, rfl⟩
    | some w =>
      have := nx_ne hn
      right
      have hm : ∀ low p, m ∉ tnS low p r := fun low p h => by
        have := a1 m ((tn_sub low r p).subset h)
        omega
      intro x h1 h2
      by_cases hc : m.l < w
      · rw [if_neg (by simp [abv]; omega)] at h1
        rw [if_pos (by simp [abv]; omega)] at h2
        rcases List.mem_cons.1 h2 with e | e
        · subst e; exact hm _ _ h1
        · exact tn_dis a2 x h1 e
      · rw [if_pos (by simp [abv]; omega)] at h1
        rw [if_neg (by simp [abv]; omega)] at h2
        rcases List.mem_cons.1 h1 with e | e
        · subst e; exact hm _ _ h2
        · exact tn_dis a2 x e h2
theorem ascM_eq : ∀ {a b : List Mk}, ascM a → ascM b → (∀ x, x ∈ a ↔ x ∈ b) → a = b
  | [], [], _, _, _ => rfl
  | [], y :: b, _, _, h => by have := (h y).2 (by simp); cases this
  | x :: a, [], _, _, h => by have := (h x).1 (by simp); cases this
  | x :: a, y :: b, ha, hb, h => by
    obtain ⟨a1, a2⟩ := List.pairwise_cons.1 ha
    obtain ⟨b1, b2⟩ := List.pairwise_cons.1 hb
    have hxy : x = y := by
      have h1 := (h x).1 (by simp)
      have h2 := (h y).2 (by simp)
      rcases List.mem_cons.1 h1 with h1 | h1
      · exact h1
      · rcases List.mem_cons.1 h2 with h2 | h2
        · exact h2.symm
        · have := a1 y h2; have := b1 x h1; omega
    subst hxy
    rw [ascM_eq a2 b2 fun z => ?_]
    constructor
    · intro hz
      have := (h z).1 (by simp [hz])
      rcases List.mem_cons.1 this with e | e
      · subst e; have := a1 z hz; omega
      · exact e
    · intro hz
      have := (h z).2 (by simp [hz])
      rcases List.mem_cons.1 this with e | e
      · subst e; have := b1 z hz; omega
      · exact e
/-- All turns, in order. -/
def memM (l : List Mk) (m : Mk) : Bool := l.any fun x => x.m == m.m && (x.l == m.l && true)
theorem memM_iff {l : List Mk} {m : Mk} : memM l m = true ↔ m ∈ l := by
  unfold memM
  rw [List.any_eq_true]
  constructor
  · rintro ⟨x, hx, h⟩
    simp only [Bool.and_true, Bool.and_eq_true, beq_iff_eq] at h
    have : x = m := by cases x; cases m; simp only [Mk.mk.injEq]; exact h
    rw [← this]; exact hx
  · exact fun h => ⟨m, h, by simp⟩
def allT (l : List Mk) : List Mk := l.filter fun m => memM (tnS false none l) m || memM (tnS true none l) m
def lvAt (L : List Mk) (j : Nat) : Int := ((L[j]?).map Mk.l).getD 0
/-- The first k differences. -/
def rgK (L : List Mk) (k : Nat) : List Int := (List.range k).map fun j => maxI (lvAt L (j + 1) - lvAt L j) (0 - (lvAt L (j + 1) - lvAt L j))
theorem rgK_next {L : List Mk} {j : Nat} {x y : Mk} (hx : L[j]? = some x) (hy : L[j + 1]? = some y) : rgK L (j + 1) = rgK L j ++ [maxI (y.l - x.l) (0 - (y.l - x.l))] := by
  rw [rgK, List.range_succ, List.map_append]
  simp [rgK, lvAt, hx, hy]
/-- Without neighbours that are alike, for the two shapes that occur. -/
def cf0 (a b : Mk) : Int := a.m - b.m
theorem sort_asc {l : List Mk} (hu : l.Pairwise fun a b => a.m ≠ b.m) : ascM (sortL cf0 l) := by
  have hp := sortL_perm cf0 l
  have hs : (sortL cf0 l).Pairwise fun a b => (!decide (cf0 b a < 0)) = true := by
    refine List.pairwise_mergeSort (fun a b c h1 h2 => ?_) (fun a b => ?_) l
    · simp only [Bool.not_eq_true', decide_eq_false_iff_not] at h1 h2 ⊢; unfold cf0 at h1 h2 ⊢; omega
    · simp only [Bool.or_eq_true, Bool.not_eq_true', decide_eq_false_iff_not]; unfold cf0; omega
  have hu2 : (sortL cf0 l).Pairwise fun a b => a.m ≠ b.m := (hp.pairwise_iff fun h e => h e.symm).2 hu
  exact (hs.and hu2).imp fun h => by
    have h1 := h.1
    have h2 := h.2
    simp only [Bool.not_eq_true', decide_eq_false_iff_not] at h1; unfold cf0 at h1; omega
theorem all_two {l : List Mk} (ha : ascM l) (h : ∀ x, x ∈ tnS false none l → x ∈ tnS true none l → False) : sortL cf0 (tnS false none l ++ tnS true none l) = allT l := by
  have s1 := tn_sub false l none
  have s2 := tn_sub true l none
  have hd : (tnS false none l ++ tnS true none l).Pairwise fun a b => a.m ≠ b.m := by
    rw [List.pairwise_append]
    refine ⟨(List.Pairwise.sublist s1 ha).imp fun h => by omega, (List.Pairwise.sublist s2 ha).imp fun h => by omega, fun a h1 b h2 e => ?_⟩
    have := asc_inj ha a (s1.subset h1) b (s2.subset h2) e
    subst this
    exact h a h1 h2
  refine ascM_eq (sort_asc hd) (List.Pairwise.filter _ ha) fun x => ?_
  rw [(sortL_perm _ _).mem_iff, List.mem_append, allT, List.mem_filter]
  simp only [Bool.or_eq_true, memM_iff]
  constructor
  · rintro (h | h)
    · exact ⟨s1.subset h, .inl h⟩
    · exact ⟨s2.subset h, .inr h⟩
  · exact fun h => h.2
theorem all_one {l : List Mk} (ha : ascM l) {m : Mk} (h1 : tnS false none l = [m]) (h2 : tnS true none l = [m]) : allT l = [m] := by
  have hm : m ∈ l := (tn_sub false l none).subset (by rw [h1]; simp)
  refine ascM_eq (List.Pairwise.filter _ ha) (List.pairwise_singleton _ _) fun x => ?_
  rw [allT, List.mem_filter, h1, h2]
  simp only [Bool.or_eq_true, memM_iff, List.mem_singleton, or_self]
  constructor
  · exact fun h => h.2
  · rintro rfl; exact ⟨hm, rfl⟩
end Go.Proofs.Try
end

section
namespace Go.Proofs.Try
open Go Go.Vm
/-- The mean level, by recursion on the marks. -/
def meanR : List Mk → Int → Option (Int × Int)
  | [], _ => none
  | [b], t => if b.m = t then some (b.l, 1) else none
  | a :: b :: r, t => if a.m = t then some (a.l, 1) else if t < a.m then none else if t < b.m then some (a.l * (b.m - a.m) + (b.l - a.l) * (t - a.m), b.m - a.m) else meanR (b :: r) t
/-- Two fractions (or none) of one value. -/
def Fr : Option (Int × Int) → Option (Int × Int) → Prop
  | none, none => True
  | some (n, d), some (n', d') => 0 < d ∧ 0 < d' ∧ n * d' = n' * d
  | _, _ => False
theorem Fr.trans {a b c : Option (Int × Int)} (h1 : Fr a b) (h2 : Fr b c) : Fr a c := by
  match a, b, c, h1, h2 with
  | none, none, none, _, _ => trivial
  | some (n, d), some (n', d'), some (n'', d''), ⟨p1, p2, e1⟩, ⟨_, p3, e2⟩ =>
    refine ⟨p1, p3, ?_⟩
    have : (n * d'') * d' = (n'' * d) * d' := by grind
    exact Int.eq_of_mul_eq_mul_right (by omega) this
theorem meanR_pos : ∀ {l : List Mk} {t n d : Int}, l.Pairwise (fun a b => a.m < b.m) → meanR l t = some (n, d) → 0 < d
  | [], t, n, d, _, h => by cases h
  | [b], t, n, d, _, h => by
    simp only [meanR] at h
    split at h
    · simp at h; omega
    · cases h
  | a :: b :: r, t, n, d, hp, h => by
    obtain ⟨h1, h2⟩ := List.pairwise_cons.1 hp
    have hab := h1 b (List.mem_cons_self ..)
    simp only [meanR] at h
    split at h
    · simp at h; omega
    · split at h
      · cases h
      · split at h
        · simp at h; omega
        · exact meanR_pos h2 h
theorem Fr.refl {l : List Mk} {t : Int} (hp : l.Pairwise (fun a b => a.m < b.m)) : Fr (meanR l t) (meanR l t) := by
  cases h : meanR l t with
  | none => trivial
  | some x => obtain ⟨n, d⟩ := x; have := meanR_pos hp h; exact ⟨this, this, rfl⟩
end Go.Proofs.Try
end

section
/- TideSimple: its contract. -/
namespace Go.Proofs.Try
open Go Go.Vm
set_option maxRecDepth 20000
set_option maxHeartbeats 2000000
end Go.Proofs.Try
end

section
namespace Go.Proofs.Try
open Go Go.Vm
set_option maxRecDepth 20000
set_option maxHeartbeats 2000000
theorem take_snoc {α : Type} {l : List α} {i : Nat} {m : α} (h : l[i]? = some m) : l.take (i + 1) = l.take i ++ [m] := by
  rw [List.take_add_one, h]; rfl
end Go.Proofs.Try
end

section
namespace Go.Proofs.Try
open Go Go.Vm
set_option maxRecDepth 20000
set_option maxHeartbeats 2000000
/-! High and low waters: the program's and the reference's Turns. -/
theorem ev_higher (a b : Int) : Ev Try.prog 29 [.int .i64 a, .int .i64 b] (.bool (abv false a b)) := by
  refine ev_of_awp tysOk mixed (fn := Try.f29) Try.func29 rfl rfl rfl ?_
  conv => whnf
  repeat' (first | ((with_reducible refine Split.of_true ?_); conv => whnf) | ((with_reducible refine Split.of_false ?_); conv => whnf) | ((with_reducible refine Split.neg ?_)) | ((with_reducible refine Split.is_true ?_ ?_); decide; conv => whnf) | ((with_reducible refine Split.is_false ?_ ?_); decide; conv => whnf) | ((with_reducible refine Split.nez (fun _ => ?_) (fun _ => ?_)) <;> conv => whnf) | ((with_reducible refine Split.eqz (fun _ => ?_) (fun _ => ?_)) <;> conv => whnf) | ((with_reducible refine Split.and ?_)) | ((with_reducible refine Split.or ?_)) | ((with_reducible refine Split.streq (fun _ => ?_) (fun _ => ?_)) <;> conv => whnf) | ((with_reducible refine Split.dec (fun _ => ?_) (fun _ => ?_)) <;> conv => whnf) | ((with_reducible refine Split.mk (fun _ => ?_) (fun _ => ?_)) <;> conv => whnf) | ((with_reducible refine NilK.mk (fun _ => ?_) ?_) <;> conv => whnf) | ((with_reducible refine AltK.l ?_); (conv => whnf); (with_reducible refine Need.mk ?_ ?_); (first | omega | (refine ⟨?_, ?_⟩ <;> simp <;> omega) | (simp; omega)); conv => whnf) | ((with_reducible refine Need.mk ?_ ?_); (first | omega | rfl | decide | (refine ⟨?_, ?_⟩ <;> simp <;> omega) | (simp; omega)); conv => whnf) | ((with_reducible refine Wr.quo ?_ ?_ ?_ ?_); omega; omega; omega; conv => whnf) | ((with_reducible refine Wr.inr ?_ ?_); (first | omega | (simp; omega)); conv => whnf) | ((with_reducible refine Wr.inu ?_ ?_); omega; conv => whnf) | (exfalso; first | omega | contradiction))
  rfl
theorem ev_lower (a b : Int) : Ev Try.prog 30 [.int .i64 a, .int .i64 b] (.bool (abv true a b)) := by
  refine ev_of_awp tysOk mixed (fn := Try.f30) Try.func30 rfl rfl rfl ?_
  conv => whnf
  repeat' (first | ((with_reducible refine Split.of_true ?_); conv => whnf) | ((with_reducible refine Split.of_false ?_); conv => whnf) | ((with_reducible refine Split.neg ?_)) | ((with_reducible refine Split.is_true ?_ ?_); decide; conv => whnf) | ((with_reducible refine Split.is_false ?_ ?_); decide; conv => whnf) | ((with_reducible refine Split.nez (fun _ => ?_) (fun _ => ?_)) <;> conv => whnf) | ((with_reducible refine Split.eqz (fun _ => ?_) (fun _ => ?_)) <;> conv => whnf) | ((with_reducible refine Split.and ?_)) | ((with_reducible refine Split.or ?_)) | ((with_reducible refine Split.streq (fun _ => ?_) (fun _ => ?_)) <;> conv => whnf) | ((with_reducible refine Split.dec (fun _ => ?_) (fun _ => ?_)) <;> conv => whnf) | ((with_reducible refine Split.mk (fun _ => ?_) (fun _ => ?_)) <;> conv => whnf) | ((with_reducible refine NilK.mk (fun _ => ?_) ?_) <;> conv => whnf) | ((with_reducible refine AltK.l ?_); (conv => whnf); (with_reducible refine Need.mk ?_ ?_); (first | omega | (refine ⟨?_, ?_⟩ <;> simp <;> omega) | (simp; omega)); conv => whnf) | ((with_reducible refine Need.mk ?_ ?_); (first | omega | rfl | decide | (refine ⟨?_, ?_⟩ <;> simp <;> omega) | (simp; omega)); conv => whnf) | ((with_reducible refine Wr.quo ?_ ?_ ?_ ?_); omega; omega; omega; conv => whnf) | ((with_reducible refine Wr.inr ?_ ?_); (first | omega | (simp; omega)); conv => whnf) | ((with_reducible refine Wr.inu ?_ ?_); omega; conv => whnf) | (exfalso; first | omega | contradiction))
  rfl
theorem ev_higherR (a b : Int) (low : Bool) : Ev Try.prog 34 [.int .i64 a, .int .i64 b, .bool low] (.bool (abv low a b)) := by
  cases low
  · refine ev_of_awp tysOk mixed (fn := Try.f34) Try.func34 rfl rfl rfl ?_
    conv => whnf
    repeat' (first | ((with_reducible refine Split.of_true ?_); conv => whnf) | ((with_reducible refine Split.of_false ?_); conv => whnf) | ((with_reducible refine Split.neg ?_)) | ((with_reducible refine Split.is_true ?_ ?_); decide; conv => whnf) | ((with_reducible refine Split.is_false ?_ ?_); decide; conv => whnf) | ((with_reducible refine Split.nez (fun _ => ?_) (fun _ => ?_)) <;> conv => whnf) | ((with_reducible refine Split.eqz (fun _ => ?_) (fun _ => ?_)) <;> conv => whnf) | ((with_reducible refine Split.and ?_)) | ((with_reducible refine Split.or ?_)) | ((with_reducible refine Split.streq (fun _ => ?_) (fun _ => ?_)) <;> conv => whnf) | ((with_reducible refine Split.dec (fun _ => ?_) (fun _ => ?_)) <;> conv => whnf) | ((with_reducible refine Split.mk (fun _ => ?_) (fun _ => ?_)) <;> conv => whnf) | ((with_reducible refine NilK.mk (fun _ => ?_) ?_) <;> conv => whnf) | ((with_reducible refine AltK.l ?_); (conv => whnf); (with_reducible refine Need.mk ?_ ?_); (first | omega | (refine ⟨?_, ?_⟩ <;> simp <;> omega) | (simp; omega)); conv => whnf) | ((with_reducible refine Need.mk ?_ ?_); (first | omega | rfl | decide | (refine ⟨?_, ?_⟩ <;> simp <;> omega) | (simp; omega)); conv => whnf) | ((with_reducible refine Wr.quo ?_ ?_ ?_ ?_); omega; omega; omega; conv => whnf) | ((with_reducible refine Wr.inr ?_ ?_); (first | omega | (simp; omega)); conv => whnf) | ((with_reducible refine Wr.inu ?_ ?_); omega; conv => whnf) | (exfalso; first | omega | contradiction))
    all_goals rfl
  · refine ev_of_awp tysOk mixed (fn := Try.f34) Try.func34 rfl rfl rfl ?_
    conv => whnf
    repeat' (first | ((with_reducible refine Split.of_true ?_); conv => whnf) | ((with_reducible refine Split.of_false ?_); conv => whnf) | ((with_reducible refine Split.neg ?_)) | ((with_reducible refine Split.is_true ?_ ?_); decide; conv => whnf) | ((with_reducible refine Split.is_false ?_ ?_); decide; conv => whnf) | ((with_reducible refine Split.nez (fun _ => ?_) (fun _ => ?_)) <;> conv => whnf) | ((with_reducible refine Split.eqz (fun _ => ?_) (fun _ => ?_)) <;> conv => whnf) | ((with_reducible refine Split.and ?_)) | ((with_reducible refine Split.or ?_)) | ((with_reducible refine Split.streq (fun _ => ?_) (fun _ => ?_)) <;> conv => whnf) | ((with_reducible refine Split.dec (fun _ => ?_) (fun _ => ?_)) <;> conv => whnf) | ((with_reducible refine Split.mk (fun _ => ?_) (fun _ => ?_)) <;> conv => whnf) | ((with_reducible refine NilK.mk (fun _ => ?_) ?_) <;> conv => whnf) | ((with_reducible refine AltK.l ?_); (conv => whnf); (with_reducible refine Need.mk ?_ ?_); (first | omega | (refine ⟨?_, ?_⟩ <;> simp <;> omega) | (simp; omega)); conv => whnf) | ((with_reducible refine Need.mk ?_ ?_); (first | omega | rfl | decide | (refine ⟨?_, ?_⟩ <;> simp <;> omega) | (simp; omega)); conv => whnf) | ((with_reducible refine Wr.quo ?_ ?_ ?_ ?_); omega; omega; omega; conv => whnf) | ((with_reducible refine Wr.inr ?_ ?_); (first | omega | (simp; omega)); conv => whnf) | ((with_reducible refine Wr.inu ?_ ?_); omega; conv => whnf) | (exfalso; first | omega | contradiction))
    all_goals rfl
theorem ev_IndexM (l : List Mk) (f : Nat) (caps : List D) (p : Mk → Bool) (hn : l.length ≤ 1000000) (hf : ∀ g ∈ l, Ev Try.prog f ([mD g] ++ caps) (.bool (p g))) :
    Ev Try.prog 42 [.sl 2 (l.map mD), .fn f caps] (.int .i64 (match l.findIdx? p with | some i => (i : Int) | none => -1)) := by
  have hlen : (l.map mD).length = l.length := List.length_map _
  refine ev_of_awp tysOk mixed (fn := Try.f42) Try.func42 rfl rfl rfl ?_
  conv => whnf
  repeat' (first | ((with_reducible refine Split.of_true ?_); conv => whnf) | ((with_reducible refine Split.of_false ?_); conv => whnf) | ((with_reducible refine Split.neg ?_)) | ((with_reducible refine Split.is_true ?_ ?_); decide; conv => whnf) | ((with_reducible refine Split.is_false ?_ ?_); decide; conv => whnf) | ((with_reducible refine Split.nez (fun _ => ?_) (fun _ => ?_)) <;> conv => whnf) | ((with_reducible refine Split.eqz (fun _ => ?_) (fun _ => ?_)) <;> conv => whnf) | ((with_reducible refine Split.and ?_)) | ((with_reducible refine Split.or ?_)) | ((with_reducible refine Split.streq (fun _ => ?_) (fun _ => ?_)) <;> conv => whnf) | ((with_reducible refine Split.dec (fun _ => ?_) (fun _ => ?_)) <;> conv => whnf) | ((with_reducible refine Split.mk (fun _ => ?_) (fun _ => ?_)) <;> conv => whnf) | ((with_reducible refine NilK.mk (fun _ => ?_) ?_) <;> conv => whnf) | ((with_reducible refine AltK.l ?_); (conv => whnf); (with_reducible refine Need.mk ?_ ?_); (first | omega | (refine ⟨?_, ?_⟩ <;> simp <;> omega) | (simp; omega)); conv => whnf) | ((with_reducible refine Need.mk ?_ ?_); (first | omega | rfl | decide | (refine ⟨?_, ?_⟩ <;> simp <;> omega) | (simp; omega)); conv => whnf) | ((with_reducible refine Wr.quo ?_ ?_ ?_ ?_); omega; omega; omega; conv => whnf) | ((with_reducible refine Wr.inr ?_ ?_); (first | omega | (simp; omega)); conv => whnf) | ((with_reducible refine Wr.inu ?_ ?_); omega; conv => whnf) | (exfalso; first | omega | contradiction))
  refine LoopK.o2 (fun i : Nat => i ≤ l.length ∧ ∀ g ∈ l.take i, p g = false) (fun i => [(8, .d (.int .i64 i))]) (fun _ => []) (fun i => l.length - i) 0 (by simp) (by refine ⟨?_, ?_, rfl⟩ <;> (repeat' (first | exact True.intro | exact rfl | refine ⟨?_, ?_⟩ | (intro h; cases h; done) | (intro h; exact h) | exact map_snoc | (refine own_congr ?_; simp; done) | (refine int_congr ?_; (first | omega | (simp; omega))) | (simp; done)))) ?_
  rintro i ⟨hi, hp⟩
  have hn : (i : Int) < l.length → ∃ m, l[i]? = some m := fun h => some_of_lt (by omega)
  conv => whnf
  repeat' (first | ((with_reducible refine Split.of_true ?_); conv => whnf) | ((with_reducible refine Split.of_false ?_); conv => whnf) | ((with_reducible refine Split.neg ?_)) | ((with_reducible refine Split.is_true ?_ ?_); decide; conv => whnf) | ((with_reducible refine Split.is_false ?_ ?_); decide; conv => whnf) | ((with_reducible refine Split.nez (fun _ => ?_) (fun _ => ?_)) <;> conv => whnf) | ((with_reducible refine Split.eqz (fun _ => ?_) (fun _ => ?_)) <;> conv => whnf) | ((with_reducible refine Split.and ?_)) | ((with_reducible refine Split.or ?_)) | ((with_reducible refine Split.streq (fun _ => ?_) (fun _ => ?_)) <;> conv => whnf) | ((with_reducible refine Split.dec (fun _ => ?_) (fun _ => ?_)) <;> conv => whnf) | ((with_reducible refine Split.mk (fun _ => ?_) (fun _ => ?_)) <;> conv => whnf) | ((with_reducible refine NilK.mk (fun _ => ?_) ?_) <;> conv => whnf) | ((with_reducible refine AltK.l ?_); (conv => whnf); (with_reducible refine Need.mk ?_ ?_); (first | omega | (refine ⟨?_, ?_⟩ <;> simp <;> omega) | (simp; omega)); conv => whnf) | ((with_reducible refine Need.mk ?_ ?_); (first | omega | rfl | decide | (refine ⟨?_, ?_⟩ <;> simp <;> omega) | (simp; omega)); conv => whnf) | ((with_reducible refine Wr.quo ?_ ?_ ?_ ?_); omega; omega; omega; conv => whnf) | ((with_reducible refine Wr.inr ?_ ?_); (first | omega | (simp; omega)); conv => whnf) | ((with_reducible refine Wr.inu ?_ ?_); omega; conv => whnf) | (exfalso; first | omega | contradiction))
  · obtain ⟨g, hg⟩ := hn (by omega)
    have hf := hf g (List.mem_of_getElem? hg)
    conv => whnf
    repeat' (first | ((refine PickE.map i hg (by omega) ?_); conv => whnf) | ((with_reducible refine Split.of_true ?_); conv => whnf) | ((with_reducible refine Split.of_false ?_); conv => whnf) | ((with_reducible refine Split.neg ?_)) | ((with_reducible refine Split.is_true ?_ ?_); decide; conv => whnf) | ((with_reducible refine Split.is_false ?_ ?_); decide; conv => whnf) | ((with_reducible refine Split.nez (fun _ => ?_) (fun _ => ?_)) <;> conv => whnf) | ((with_reducible refine Split.eqz (fun _ => ?_) (fun _ => ?_)) <;> conv => whnf) | ((with_reducible refine Split.and ?_)) | ((with_reducible refine Split.or ?_)) | ((with_reducible refine Split.streq (fun _ => ?_) (fun _ => ?_)) <;> conv => whnf) | ((with_reducible refine Split.dec (fun _ => ?_) (fun _ => ?_)) <;> conv => whnf) | ((with_reducible refine Split.mk (fun _ => ?_) (fun _ => ?_)) <;> conv => whnf) | ((with_reducible refine NilK.mk (fun _ => ?_) ?_) <;> conv => whnf) | ((with_reducible refine AltK.l ?_); (conv => whnf); (with_reducible refine Need.mk ?_ ?_); (first | omega | (refine ⟨?_, ?_⟩ <;> simp <;> omega) | (simp; omega)); conv => whnf) | ((with_reducible refine Need.mk ?_ ?_); (first | omega | rfl | decide | (refine ⟨?_, ?_⟩ <;> simp <;> omega) | (simp; omega)); conv => whnf) | ((with_reducible refine Wr.quo ?_ ?_ ?_ ?_); omega; omega; omega; conv => whnf) | ((with_reducible refine Wr.inr ?_ ?_); (first | omega | (simp; omega)); conv => whnf) | ((with_reducible refine Wr.inu ?_ ?_); omega; conv => whnf) | (exfalso; first | omega | contradiction))
    refine AltK.l ?_
    conv => whnf
    refine CallK.mk _ hf ?_
    conv => whnf
    refine Split.mk (fun hpg => ?_) (fun hpg => ?_)
    · conv => whnf
      repeat' (first | ((with_reducible refine Split.of_true ?_); conv => whnf) | ((with_reducible refine Split.of_false ?_); conv => whnf) | ((with_reducible refine Split.neg ?_)) | ((with_reducible refine Split.is_true ?_ ?_); decide; conv => whnf) | ((with_reducible refine Split.is_false ?_ ?_); decide; conv => whnf) | ((with_reducible refine Split.nez (fun _ => ?_) (fun _ => ?_)) <;> conv => whnf) | ((with_reducible refine Split.eqz (fun _ => ?_) (fun _ => ?_)) <;> conv => whnf) | ((with_reducible refine Split.and ?_)) | ((with_reducible refine Split.or ?_)) | ((with_reducible refine Split.streq (fun _ => ?_) (fun _ => ?_)) <;> conv => whnf) | ((with_reducible refine Split.dec (fun _ => ?_) (fun _ => ?_)) <;> conv => whnf) | ((with_reducible refine Split.mk (fun _ => ?_) (fun _ => ?_)) <;> conv => whnf) | ((with_reducible refine NilK.mk (fun _ => ?_) ?_) <;> conv => whnf) | ((with_reducible refine AltK.l ?_); (conv => whnf); (with_reducible refine Need.mk ?_ ?_); (first | omega | (refine ⟨?_, ?_⟩ <;> simp <;> omega) | (simp; omega)); conv => whnf) | ((with_reducible refine Need.mk ?_ ?_); (first | omega | rfl | decide | (refine ⟨?_, ?_⟩ <;> simp <;> omega) | (simp; omega)); conv => whnf) | ((with_reducible refine Wr.quo ?_ ?_ ?_ ?_); omega; omega; omega; conv => whnf) | ((with_reducible refine Wr.inr ?_ ?_); (first | omega | (simp; omega)); conv => whnf) | ((with_reducible refine Wr.inu ?_ ?_); omega; conv => whnf) | (exfalso; first | omega | contradiction))
      have e : l.findIdx? p = some i := by
        rw [List.findIdx?_eq_some_iff_getElem]
        refine ⟨by omega, by rw [(List.getElem?_eq_some_iff.1 hg).2]; exact hpg, fun j hj => ?_⟩
        have := hp l[j] (List.mem_take_iff_getElem.2 ⟨j, by omega, rfl⟩)
        rw [this]; decide
      rw [e]; rfl
    · conv => whnf
      conv => whnf
      repeat' (first | ((with_reducible refine Split.of_true ?_); conv => whnf) | ((with_reducible refine Split.of_false ?_); conv => whnf) | ((with_reducible refine Split.neg ?_)) | ((with_reducible refine Split.is_true ?_ ?_); decide; conv => whnf) | ((with_reducible refine Split.is_false ?_ ?_); decide; conv => whnf) | ((with_reducible refine Split.nez (fun _ => ?_) (fun _ => ?_)) <;> conv => whnf) | ((with_reducible refine Split.eqz (fun _ => ?_) (fun _ => ?_)) <;> conv => whnf) | ((with_reducible refine Split.and ?_)) | ((with_reducible refine Split.or ?_)) | ((with_reducible refine Split.streq (fun _ => ?_) (fun _ => ?_)) <;> conv => whnf) | ((with_reducible refine Split.dec (fun _ => ?_) (fun _ => ?_)) <;> conv => whnf) | ((with_reducible refine Split.mk (fun _ => ?_) (fun _ => ?_)) <;> conv => whnf) | ((with_reducible refine NilK.mk (fun _ => ?_) ?_) <;> conv => whnf) | ((with_reducible refine AltK.l ?_); (conv => whnf); (with_reducible refine Need.mk ?_ ?_); (first | omega | (refine ⟨?_, ?_⟩ <;> simp <;> omega) | (simp; omega)); conv => whnf) | ((with_reducible refine Need.mk ?_ ?_); (first | omega | rfl | decide | (refine ⟨?_, ?_⟩ <;> simp <;> omega) | (simp; omega)); conv => whnf) | ((with_reducible refine Wr.quo ?_ ?_ ?_ ?_); omega; omega; omega; conv => whnf) | ((with_reducible refine Wr.inr ?_ ?_); (first | omega | (simp; omega)); conv => whnf) | ((with_reducible refine Wr.inu ?_ ?_); omega; conv => whnf) | (exfalso; first | omega | contradiction))
      refine Again.au (i + 1) ⟨by omega, fun x hx => ?_⟩ (by omega) (by refine ⟨?_, ?_, rfl⟩ <;> (repeat' (first | exact True.intro | exact rfl | refine ⟨?_, ?_⟩ | (intro h; cases h; done) | (intro h; exact h) | exact map_snoc | (refine own_congr ?_; simp; done) | (refine int_congr ?_; (first | omega | (simp; omega))) | (simp; done))))
      rw [take_snoc hg] at hx
      rcases List.mem_append.1 hx with hx | hx
      · exact hp x hx
      · rw [List.mem_singleton.1 hx]; exact hpg
  · have e : l.findIdx? p = none := by
      rw [List.findIdx?_eq_none_iff]
      intro x hx
      rw [← List.take_of_length_le (show l.length ≤ i by omega)] at hx
      exact hp x hx
    rw [e]; rfl
theorem ev_turns1 (n m : Mk) : Ev Try.prog 43 [mD n, .ref [.int .i64 m.m, .int .i64 m.l] 0] (.bool (n.l != m.l)) := by
  refine ev_of_awp tysOk mixed (fn := Try.f43) Try.func43 rfl rfl rfl ?_
  conv => whnf
  repeat' (first | ((with_reducible refine Split.of_true ?_); conv => whnf) | ((with_reducible refine Split.of_false ?_); conv => whnf) | ((with_reducible refine Split.neg ?_)) | ((with_reducible refine Split.is_true ?_ ?_); decide; conv => whnf) | ((with_reducible refine Split.is_false ?_ ?_); decide; conv => whnf) | ((with_reducible refine Split.nez (fun _ => ?_) (fun _ => ?_)) <;> conv => whnf) | ((with_reducible refine Split.eqz (fun _ => ?_) (fun _ => ?_)) <;> conv => whnf) | ((with_reducible refine Split.and ?_)) | ((with_reducible refine Split.or ?_)) | ((with_reducible refine Split.streq (fun _ => ?_) (fun _ => ?_)) <;> conv => whnf) | ((with_reducible refine Split.dec (fun _ => ?_) (fun _ => ?_)) <;> conv => whnf) | ((with_reducible refine Split.mk (fun _ => ?_) (fun _ => ?_)) <;> conv => whnf) | ((with_reducible refine NilK.mk (fun _ => ?_) ?_) <;> conv => whnf) | ((with_reducible refine AltK.l ?_); (conv => whnf); (with_reducible refine Need.mk ?_ ?_); (first | omega | (refine ⟨?_, ?_⟩ <;> simp <;> omega) | (simp; omega)); conv => whnf) | ((with_reducible refine Need.mk ?_ ?_); (first | omega | rfl | decide | (refine ⟨?_, ?_⟩ <;> simp <;> omega) | (simp; omega)); conv => whnf) | ((with_reducible refine Wr.quo ?_ ?_ ?_ ?_); omega; omega; omega; conv => whnf) | ((with_reducible refine Wr.inr ?_ ?_); (first | omega | (simp; omega)); conv => whnf) | ((with_reducible refine Wr.inu ?_ ?_); omega; conv => whnf) | (exfalso; first | omega | contradiction))
  rfl
theorem find_idx {α : Type} (p : α → Bool) : ∀ l : List α, (l.findIdx? p = none → l.find? p = none) ∧ ∀ k, l.findIdx? p = some k → ∃ x, l[k]? = some x ∧ l.find? p = some x
  | [] => ⟨fun _ => rfl, fun k h => by cases h⟩
  | a :: r => by
    obtain ⟨i1, i2⟩ := find_idx p r
    rw [List.findIdx?_cons, List.find?_cons]
    cases ha : p a with
    | true => exact ⟨fun h => by simp at h, fun k h => by simp at h; subst h; exact ⟨a, rfl, rfl⟩⟩
    | false =>
      simp only [Bool.false_eq_true, if_false]
      constructor
      · intro h; exact i1 (by simpa using h)
      · intro k h
        rw [Option.map_eq_some_iff] at h
        obtain ⟨j, hj, rfl⟩ := h
        obtain ⟨x, hx, hf⟩ := i2 j hj
        exact ⟨x, by simpa using hx, hf⟩
theorem nx_idx {l : List Mk} {i : Nat} {m : Mk} (hm : l[i]? = some m) :
    ((l.drop i).findIdx? (fun n => n.l != m.l) = none → nxD m.l (l.drop (i + 1)) = none) ∧ ∀ k : Nat, (l.drop i).findIdx? (fun n => n.l != m.l) = some k → ∃ n, l[i + k]? = some n ∧ nxD m.l (l.drop (i + 1)) = some n.l := by
  obtain ⟨h1, h2⟩ := find_idx (fun n : Mk => n.l != m.l) (l.drop i)
  have e : nxD m.l (l.drop (i + 1)) = ((l.drop i).find? fun n => n.l != m.l).map Mk.l := by
    rw [drop_of hm, List.find?_cons]
    simp [nxD]
  rw [e]
  refine ⟨fun h => by rw [h1 h]; rfl, fun k h => ?_⟩
  obtain ⟨x, hx, hf⟩ := h2 k h
  exact ⟨x, by rw [← hx, List.getElem?_drop], by rw [hf]; rfl⟩
/-- The level ahead. -/
def pvS (l : List Mk) : Nat → Option Int
  | 0 => none
  | i + 1 => (l[i]?).map Mk.l
theorem tn_step {low : Bool} {l : List Mk} {i : Nat} {m : Mk} (hm : l[i]? = some m) : tnS low (pvS l i) (l.drop i) =
    if (okO low m.l (pvS l i) && okO low m.l (nxD m.l (l.drop (i + 1)))) = true then m :: tnS low (pvS l (i + 1)) (l.drop (i + 1)) else tnS low (pvS l (i + 1)) (l.drop (i + 1)) := by
  have e : pvS l (i + 1) = some m.l := by simp [pvS, hm]
  rw [drop_of hm, tnS, e]
end Go.Proofs.Try
end

section
namespace Go.Proofs.Try
open Go Go.Vm
set_option maxRecDepth 20000
set_option maxHeartbeats 4000000
/-! Turns: contracts. -/
theorem xv_turns (g : Ga) (F : Nat) (low : Bool) (hn : g.marks.length ≤ 400) (hF : ∀ a b : Int, Ev Try.prog F [.int .i64 a, .int .i64 b] (.bool (abv low a b))) :
    EvX Try.prog 28 [.d (gD g), .d (.fn F [])] [] (.own 9 2 ((tnS low none g.marks).map mD).length) [(9, .row 51 2 ((tnS low none g.marks).map mD) false)] := by
  have hlen : (g.marks.map mD).length = g.marks.length := List.length_map _
  have hsub := (tn_sub low g.marks none).length_le
  have e0 : tnS low none g.marks = [] ++ tnS low (pvS g.marks 0) (g.marks.drop 0) := rfl
  generalize tnS low none g.marks = T at *
  refine evx_of_awp tysOk mixed (fn := Try.f28) Try.func28 rfl rfl rfl ?_
  conv => whnf
  repeat' (first | ((with_reducible refine Split.of_true ?_); conv => whnf) | ((with_reducible refine Split.of_false ?_); conv => whnf) | ((with_reducible refine Split.neg ?_)) | ((with_reducible refine Split.is_true ?_ ?_); decide; conv => whnf) | ((with_reducible refine Split.is_false ?_ ?_); decide; conv => whnf) | ((with_reducible refine Split.nez (fun _ => ?_) (fun _ => ?_)) <;> conv => whnf) | ((with_reducible refine Split.eqz (fun _ => ?_) (fun _ => ?_)) <;> conv => whnf) | ((with_reducible refine Split.and ?_)) | ((with_reducible refine Split.or ?_)) | ((with_reducible refine Split.streq (fun _ => ?_) (fun _ => ?_)) <;> conv => whnf) | ((with_reducible refine Split.dec (fun _ => ?_) (fun _ => ?_)) <;> conv => whnf) | ((with_reducible refine Split.mk (fun _ => ?_) (fun _ => ?_)) <;> conv => whnf) | ((with_reducible refine NilK.mk (fun _ => ?_) ?_) <;> conv => whnf) | ((with_reducible refine AltK.l ?_); (conv => whnf); (with_reducible refine Need.mk ?_ ?_); (first | omega | (refine ⟨?_, ?_⟩ <;> simp <;> omega) | (simp; omega)); conv => whnf) | ((with_reducible refine Need.mk ?_ ?_); (first | omega | rfl | decide | (refine ⟨?_, ?_⟩ <;> simp <;> omega) | (simp; omega)); conv => whnf) | ((with_reducible refine Wr.quo ?_ ?_ ?_ ?_); omega; omega; omega; conv => whnf) | ((with_reducible refine Wr.inr ?_ ?_); (first | omega | (simp; omega)); conv => whnf) | ((with_reducible refine Wr.inu ?_ ?_); omega; conv => whnf) | (exfalso; first | omega | contradiction))
  refine LoopK.o2 (fun x : Nat × List Mk => x.1 ≤ g.marks.length ∧ T = x.2 ++ tnS low (pvS g.marks x.1) (g.marks.drop x.1)) (fun x => [(5, .own 200 2 (x.2.map mD).length), (12, .d (.int .i64 x.1))]) (fun x => [(200, .row 51 2 (x.2.map mD) false)]) (fun x => g.marks.length - x.1) (0, []) ⟨by simp, e0⟩ (by refine ⟨?_, ?_, rfl⟩ <;> (repeat' (first | exact True.intro | exact rfl | refine ⟨?_, ?_⟩ | (intro h; cases h; done) | (intro h; exact h) | exact map_snoc | (refine own_congr ?_; simp; done) | (refine int_congr ?_; (first | omega | (simp; omega))) | (simp; done)))) ?_
  rintro ⟨i, o⟩ ⟨hi, hT⟩
  dsimp only at hi hT ⊢
  have hol : (o.map mD).length = o.length := List.length_map _
  have ho : o.length ≤ T.length := by rw [hT, List.length_append]; omega
  by_cases hil : i < g.marks.length
  · obtain ⟨m, hm⟩ := some_of_lt hil
    have hs := tn_step (low := low) hm
    obtain ⟨n1, n2⟩ := nx_idx hm
    have hI := ev_IndexM (g.marks.drop i) 43 [.ref [.int .i64 m.m, .int .i64 m.l] 0] (fun n => n.l != m.l) (by rw [List.length_drop]; omega) (fun n _ => ev_turns1 n m)
    have hd : ((g.marks.map mD).take ((g.marks.map mD).length : Int).toNat).drop ((i : Int)).toNat = (g.marks.drop i).map mD := by rw [Int.toNat_natCast, Int.toNat_natCast, List.take_of_length_le (Nat.le_refl _), List.map_drop]
    rw [← hd] at hI
    rw [hs] at hT
    have hprev : ∀ b : Bool, okO low m.l (pvS g.marks i) = b → (i = 0 ∧ b = true) ∨ ∃ q, 0 < i ∧ g.marks[i - 1]? = some q ∧ abv low m.l q.l = b := by
      intro b hb
      cases i with
      | zero => exact .inl ⟨rfl, by rw [← hb]; rfl⟩
      | succ j =>
        obtain ⟨q, hq⟩ := some_of_lt (show j < g.marks.length by omega)
        refine .inr ⟨q, by omega, by simpa using hq, ?_⟩
        rw [← hb]; simp [pvS, hq, okO]
    cases hp : okO low m.l (pvS g.marks i) with
    | false =>
      rw [hp, Bool.false_and, if_neg (by decide)] at hT
      rcases hprev _ hp with ⟨-, h⟩ | ⟨q, hi0, hq, hab⟩
      · cases h
      have hFa := hF m.l q.l
      rw [hab] at hFa
      conv => whnf
      repeat' (first | ((refine PickE.map (i - 1) hq (by omega) ?_); conv => whnf) | ((refine PickE.map i hm (by omega) ?_); conv => whnf) | ((with_reducible refine Split.of_true ?_); conv => whnf) | ((with_reducible refine Split.of_false ?_); conv => whnf) | ((with_reducible refine Split.neg ?_)) | ((with_reducible refine Split.is_true ?_ ?_); decide; conv => whnf) | ((with_reducible refine Split.is_false ?_ ?_); decide; conv => whnf) | ((with_reducible refine Split.nez (fun _ => ?_) (fun _ => ?_)) <;> conv => whnf) | ((with_reducible refine Split.eqz (fun _ => ?_) (fun _ => ?_)) <;> conv => whnf) | ((with_reducible refine Split.and ?_)) | ((with_reducible refine Split.or ?_)) | ((with_reducible refine Split.streq (fun _ => ?_) (fun _ => ?_)) <;> conv => whnf) | ((with_reducible refine Split.dec (fun _ => ?_) (fun _ => ?_)) <;> conv => whnf) | ((with_reducible refine Split.mk (fun _ => ?_) (fun _ => ?_)) <;> conv => whnf) | ((with_reducible refine NilK.mk (fun _ => ?_) ?_) <;> conv => whnf) | ((with_reducible refine AltK.l ?_); (conv => whnf); (with_reducible refine Need.mk ?_ ?_); (first | omega | (refine ⟨?_, ?_⟩ <;> simp <;> omega) | (simp; omega)); conv => whnf) | ((with_reducible refine Need.mk ?_ ?_); (first | omega | rfl | decide | (refine ⟨?_, ?_⟩ <;> simp <;> omega) | (simp; omega)); conv => whnf) | ((with_reducible refine Wr.quo ?_ ?_ ?_ ?_); omega; omega; omega; conv => whnf) | ((with_reducible refine Wr.inr ?_ ?_); (first | omega | (simp; omega)); conv => whnf) | ((with_reducible refine Wr.inu ?_ ?_); omega; conv => whnf) | ((with_reducible refine AltK.l ?_); (conv => whnf); (first | (refine CallK.mk _ (hFa) ?_)); conv => whnf) | (exfalso; first | omega | contradiction))
      exact Again.au (i + 1, o) ⟨by omega, hT⟩ (by dsimp only; omega) (by refine ⟨?_, ?_, rfl⟩ <;> (repeat' (first | exact True.intro | exact rfl | refine ⟨?_, ?_⟩ | (intro h; cases h; done) | (intro h; exact h) | exact map_snoc | (refine own_congr ?_; simp; done) | (refine int_congr ?_; (first | omega | (simp; omega))) | (simp; done))))
    | true =>
      rw [hp, Bool.true_and] at hT
      cases hx : (g.marks.drop i).findIdx? (fun n => n.l != m.l) with
      | none =>
        rw [n1 hx, if_pos (show okO low m.l none = true from rfl)] at hT
        rw [hx] at hI
        simp only at hI
        have hT' : T = (o ++ [m]) ++ tnS low (pvS g.marks (i + 1)) (g.marks.drop (i + 1)) := by rw [hT]; simp
        rcases hprev _ hp with ⟨h0, -⟩ | ⟨q, hi0, hq, hab⟩
        · conv => whnf
          repeat' (first | ((refine PickE.map i hm (by omega) ?_); conv => whnf) | ((with_reducible refine Split.of_true ?_); conv => whnf) | ((with_reducible refine Split.of_false ?_); conv => whnf) | ((with_reducible refine Split.neg ?_)) | ((with_reducible refine Split.is_true ?_ ?_); decide; conv => whnf) | ((with_reducible refine Split.is_false ?_ ?_); decide; conv => whnf) | ((with_reducible refine Split.nez (fun _ => ?_) (fun _ => ?_)) <;> conv => whnf) | ((with_reducible refine Split.eqz (fun _ => ?_) (fun _ => ?_)) <;> conv => whnf) | ((with_reducible refine Split.and ?_)) | ((with_reducible refine Split.or ?_)) | ((with_reducible refine Split.streq (fun _ => ?_) (fun _ => ?_)) <;> conv => whnf) | ((with_reducible refine Split.dec (fun _ => ?_) (fun _ => ?_)) <;> conv => whnf) | ((with_reducible refine Split.mk (fun _ => ?_) (fun _ => ?_)) <;> conv => whnf) | ((with_reducible refine NilK.mk (fun _ => ?_) ?_) <;> conv => whnf) | ((with_reducible refine AltK.l ?_); (conv => whnf); (with_reducible refine Need.mk ?_ ?_); (first | omega | (refine ⟨?_, ?_⟩ <;> simp <;> omega) | (simp; omega)); conv => whnf) | ((with_reducible refine Need.mk ?_ ?_); (first | omega | rfl | decide | (refine ⟨?_, ?_⟩ <;> simp <;> omega) | (simp; omega)); conv => whnf) | ((with_reducible refine Wr.quo ?_ ?_ ?_ ?_); omega; omega; omega; conv => whnf) | ((with_reducible refine Wr.inr ?_ ?_); (first | omega | (simp; omega)); conv => whnf) | ((with_reducible refine Wr.inu ?_ ?_); omega; conv => whnf) | ((with_reducible refine AltK.l ?_); (conv => whnf); (first | (refine CallK.mk _ (hI) ?_)); conv => whnf) | (exfalso; first | omega | contradiction))
          exact Again.au (i + 1, o ++ [m]) ⟨by omega, hT'⟩ (by dsimp only; omega) (by refine ⟨?_, ?_, rfl⟩ <;> (repeat' (first | exact True.intro | exact rfl | refine ⟨?_, ?_⟩ | (intro h; cases h; done) | (intro h; exact h) | exact map_snoc | (refine own_congr ?_; simp; done) | (refine int_congr ?_; (first | omega | (simp; omega))) | (simp; done))))
        · have hFa := hF m.l q.l
          rw [hab] at hFa
          conv => whnf
          repeat' (first | ((refine PickE.map (i - 1) hq (by omega) ?_); conv => whnf) | ((refine PickE.map i hm (by omega) ?_); conv => whnf) | ((with_reducible refine Split.of_true ?_); conv => whnf) | ((with_reducible refine Split.of_false ?_); conv => whnf) | ((with_reducible refine Split.neg ?_)) | ((with_reducible refine Split.is_true ?_ ?_); decide; conv => whnf) | ((with_reducible refine Split.is_false ?_ ?_); decide; conv => whnf) | ((with_reducible refine Split.nez (fun _ => ?_) (fun _ => ?_)) <;> conv => whnf) | ((with_reducible refine Split.eqz (fun _ => ?_) (fun _ => ?_)) <;> conv => whnf) | ((with_reducible refine Split.and ?_)) | ((with_reducible refine Split.or ?_)) | ((with_reducible refine Split.streq (fun _ => ?_) (fun _ => ?_)) <;> conv => whnf) | ((with_reducible refine Split.dec (fun _ => ?_) (fun _ => ?_)) <;> conv => whnf) | ((with_reducible refine Split.mk (fun _ => ?_) (fun _ => ?_)) <;> conv => whnf) | ((with_reducible refine NilK.mk (fun _ => ?_) ?_) <;> conv => whnf) | ((with_reducible refine AltK.l ?_); (conv => whnf); (with_reducible refine Need.mk ?_ ?_); (first | omega | (refine ⟨?_, ?_⟩ <;> simp <;> omega) | (simp; omega)); conv => whnf) | ((with_reducible refine Need.mk ?_ ?_); (first | omega | rfl | decide | (refine ⟨?_, ?_⟩ <;> simp <;> omega) | (simp; omega)); conv => whnf) | ((with_reducible refine Wr.quo ?_ ?_ ?_ ?_); omega; omega; omega; conv => whnf) | ((with_reducible refine Wr.inr ?_ ?_); (first | omega | (simp; omega)); conv => whnf) | ((with_reducible refine Wr.inu ?_ ?_); omega; conv => whnf) | ((with_reducible refine AltK.l ?_); (conv => whnf); (first | (refine CallK.mk _ (hI) ?_) | (refine CallK.mk _ (hFa) ?_)); conv => whnf) | (exfalso; first | omega | contradiction))
          exact Again.au (i + 1, o ++ [m]) ⟨by omega, hT'⟩ (by dsimp only; omega) (by refine ⟨?_, ?_, rfl⟩ <;> (repeat' (first | exact True.intro | exact rfl | refine ⟨?_, ?_⟩ | (intro h; cases h; done) | (intro h; exact h) | exact map_snoc | (refine own_congr ?_; simp; done) | (refine int_congr ?_; (first | omega | (simp; omega))) | (simp; done))))
      | some k =>
        obtain ⟨n, hn1, hn2⟩ := n2 k hx
        have hik := lt_of_some hn1
        rw [hn2] at hT
        rw [hx] at hI
        simp only at hI
        have hFb := hF m.l n.l
        cases hb : abv low m.l n.l with
        | true =>
          rw [hb] at hFb
          rw [if_pos (by exact hb)] at hT
          have hT' : T = (o ++ [m]) ++ tnS low (pvS g.marks (i + 1)) (g.marks.drop (i + 1)) := by rw [hT]; simp
          rcases hprev _ hp with ⟨h0, -⟩ | ⟨q, hi0, hq, hab⟩
          · conv => whnf
            repeat' (first | ((refine PickE.map (i + k) hn1 (by omega) ?_); conv => whnf) | ((refine PickE.map i hm (by omega) ?_); conv => whnf) | ((with_reducible refine Split.of_true ?_); conv => whnf) | ((with_reducible refine Split.of_false ?_); conv => whnf) | ((with_reducible refine Split.neg ?_)) | ((with_reducible refine Split.is_true ?_ ?_); decide; conv => whnf) | ((with_reducible refine Split.is_false ?_ ?_); decide; conv => whnf) | ((with_reducible refine Split.nez (fun _ => ?_) (fun _ => ?_)) <;> conv => whnf) | ((with_reducible refine Split.eqz (fun _ => ?_) (fun _ => ?_)) <;> conv => whnf) | ((with_reducible refine Split.and ?_)) | ((with_reducible refine Split.or ?_)) | ((with_reducible refine Split.streq (fun _ => ?_) (fun _ => ?_)) <;> conv => whnf) | ((with_reducible refine Split.dec (fun _ => ?_) (fun _ => ?_)) <;> conv => whnf) | ((with_reducible refine Split.mk (fun _ => ?_) (fun _ => ?_)) <;> conv => whnf) | ((with_reducible refine NilK.mk (fun _ => ?_) ?_) <;> conv => whnf) | ((with_reducible refine AltK.l ?_); (conv => whnf); (with_reducible refine Need.mk ?_ ?_); (first | omega | (refine ⟨?_, ?_⟩ <;> simp <;> omega) | (simp; omega)); conv => whnf) | ((with_reducible refine Need.mk ?_ ?_); (first | omega | rfl | decide | (refine ⟨?_, ?_⟩ <;> simp <;> omega) | (simp; omega)); conv => whnf) | ((with_reducible refine Wr.quo ?_ ?_ ?_ ?_); omega; omega; omega; conv => whnf) | ((with_reducible refine Wr.inr ?_ ?_); (first | omega | (simp; omega)); conv => whnf) | ((with_reducible refine Wr.inu ?_ ?_); omega; conv => whnf) | ((with_reducible refine AltK.l ?_); (conv => whnf); (first | (refine CallK.mk _ (hI) ?_) | (refine CallK.mk _ (hFb) ?_)); conv => whnf) | (exfalso; first | omega | contradiction))
            exact Again.au (i + 1, o ++ [m]) ⟨by omega, hT'⟩ (by dsimp only; omega) (by refine ⟨?_, ?_, rfl⟩ <;> (repeat' (first | exact True.intro | exact rfl | refine ⟨?_, ?_⟩ | (intro h; cases h; done) | (intro h; exact h) | exact map_snoc | (refine own_congr ?_; simp; done) | (refine int_congr ?_; (first | omega | (simp; omega))) | (simp; done))))
          · have hFa := hF m.l q.l
            rw [hab] at hFa
            conv => whnf
            repeat' (first | ((refine PickE.map (i - 1) hq (by omega) ?_); conv => whnf) | ((refine PickE.map (i + k) hn1 (by omega) ?_); conv => whnf) | ((refine PickE.map i hm (by omega) ?_); conv => whnf) | ((with_reducible refine Split.of_true ?_); conv => whnf) | ((with_reducible refine Split.of_false ?_); conv => whnf) | ((with_reducible refine Split.neg ?_)) | ((with_reducible refine Split.is_true ?_ ?_); decide; conv => whnf) | ((with_reducible refine Split.is_false ?_ ?_); decide; conv => whnf) | ((with_reducible refine Split.nez (fun _ => ?_) (fun _ => ?_)) <;> conv => whnf) | ((with_reducible refine Split.eqz (fun _ => ?_) (fun _ => ?_)) <;> conv => whnf) | ((with_reducible refine Split.and ?_)) | ((with_reducible refine Split.or ?_)) | ((with_reducible refine Split.streq (fun _ => ?_) (fun _ => ?_)) <;> conv => whnf) | ((with_reducible refine Split.dec (fun _ => ?_) (fun _ => ?_)) <;> conv => whnf) | ((with_reducible refine Split.mk (fun _ => ?_) (fun _ => ?_)) <;> conv => whnf) | ((with_reducible refine NilK.mk (fun _ => ?_) ?_) <;> conv => whnf) | ((with_reducible refine AltK.l ?_); (conv => whnf); (with_reducible refine Need.mk ?_ ?_); (first | omega | (refine ⟨?_, ?_⟩ <;> simp <;> omega) | (simp; omega)); conv => whnf) | ((with_reducible refine Need.mk ?_ ?_); (first | omega | rfl | decide | (refine ⟨?_, ?_⟩ <;> simp <;> omega) | (simp; omega)); conv => whnf) | ((with_reducible refine Wr.quo ?_ ?_ ?_ ?_); omega; omega; omega; conv => whnf) | ((with_reducible refine Wr.inr ?_ ?_); (first | omega | (simp; omega)); conv => whnf) | ((with_reducible refine Wr.inu ?_ ?_); omega; conv => whnf) | ((with_reducible refine AltK.l ?_); (conv => whnf); (first | (refine CallK.mk _ (hI) ?_) | (refine CallK.mk _ (hFa) ?_) | (refine CallK.mk _ (hFb) ?_)); conv => whnf) | (exfalso; first | omega | contradiction))
            exact Again.au (i + 1, o ++ [m]) ⟨by omega, hT'⟩ (by dsimp only; omega) (by refine ⟨?_, ?_, rfl⟩ <;> (repeat' (first | exact True.intro | exact rfl | refine ⟨?_, ?_⟩ | (intro h; cases h; done) | (intro h; exact h) | exact map_snoc | (refine own_congr ?_; simp; done) | (refine int_congr ?_; (first | omega | (simp; omega))) | (simp; done))))
        | false =>
          rw [hb] at hFb
          rw [if_neg (by rw [show okO low m.l (some n.l) = abv low m.l n.l from rfl, hb]; decide)] at hT
          rcases hprev _ hp with ⟨h0, -⟩ | ⟨q, hi0, hq, hab⟩
          · conv => whnf
            repeat' (first | ((refine PickE.map (i + k) hn1 (by omega) ?_); conv => whnf) | ((refine PickE.map i hm (by omega) ?_); conv => whnf) | ((with_reducible refine Split.of_true ?_); conv => whnf) | ((with_reducible refine Split.of_false ?_); conv => whnf) | ((with_reducible refine Split.neg ?_)) | ((with_reducible refine Split.is_true ?_ ?_); decide; conv => whnf) | ((with_reducible refine Split.is_false ?_ ?_); decide; conv => whnf) | ((with_reducible refine Split.nez (fun _ => ?_) (fun _ => ?_)) <;> conv => whnf) | ((with_reducible refine Split.eqz (fun _ => ?_) (fun _ => ?_)) <;> conv => whnf) | ((with_reducible refine Split.and ?_)) | ((with_reducible refine Split.or ?_)) | ((with_reducible refine Split.streq (fun _ => ?_) (fun _ => ?_)) <;> conv => whnf) | ((with_reducible refine Split.dec (fun _ => ?_) (fun _ => ?_)) <;> conv => whnf) | ((with_reducible refine Split.mk (fun _ => ?_) (fun _ => ?_)) <;> conv => whnf) | ((with_reducible refine NilK.mk (fun _ => ?_) ?_) <;> conv => whnf) | ((with_reducible refine AltK.l ?_); (conv => whnf); (with_reducible refine Need.mk ?_ ?_); (first | omega | (refine ⟨?_, ?_⟩ <;> simp <;> omega) | (simp; omega)); conv => whnf) | ((with_reducible refine Need.mk ?_ ?_); (first | omega | rfl | decide | (refine ⟨?_, ?_⟩ <;> simp <;> omega) | (simp; omega)); conv => whnf) | ((with_reducible refine Wr.quo ?_ ?_ ?_ ?_); omega; omega; omega; conv => whnf) | ((with_reducible refine Wr.inr ?_ ?_); (first | omega | (simp; omega)); conv => whnf) | ((with_reducible refine Wr.inu ?_ ?_); omega; conv => whnf) | ((with_reducible refine AltK.l ?_); (conv => whnf); (first | (refine CallK.mk _ (hI) ?_) | (refine CallK.mk _ (hFb) ?_)); conv => whnf) | (exfalso; first | omega | contradiction))
            exact Again.au (i + 1, o) ⟨by omega, hT⟩ (by dsimp only; omega) (by refine ⟨?_, ?_, rfl⟩ <;> (repeat' (first | exact True.intro | exact rfl | refine ⟨?_, ?_⟩ | (intro h; cases h; done) | (intro h; exact h) | exact map_snoc | (refine own_congr ?_; simp; done) | (refine int_congr ?_; (first | omega | (simp; omega))) | (simp; done))))
          · have hFa := hF m.l q.l
            rw [hab] at hFa
            conv => whnf
            repeat' (first | ((refine PickE.map (i - 1) hq (by omega) ?_); conv => whnf) | ((refine PickE.map (i + k) hn1 (by omega) ?_); conv => whnf) | ((refine PickE.map i hm (by omega) ?_); conv => whnf) | ((with_reducible refine Split.of_true ?_); conv => whnf) | ((with_reducible refine Split.of_false ?_); conv => whnf) | ((with_reducible refine Split.neg ?_)) | ((with_reducible refine Split.is_true ?_ ?_); decide; conv => whnf) | ((with_reducible refine Split.is_false ?_ ?_); decide; conv => whnf) | ((with_reducible refine Split.nez (fun _ => ?_) (fun _ => ?_)) <;> conv => whnf) | ((with_reducible refine Split.eqz (fun _ => ?_) (fun _ => ?_)) <;> conv => whnf) | ((with_reducible refine Split.and ?_)) | ((with_reducible refine Split.or ?_)) | ((with_reducible refine Split.streq (fun _ => ?_) (fun _ => ?_)) <;> conv => whnf) | ((with_reducible refine Split.dec (fun _ => ?_) (fun _ => ?_)) <;> conv => whnf) | ((with_reducible refine Split.mk (fun _ => ?_) (fun _ => ?_)) <;> conv => whnf) | ((with_reducible refine NilK.mk (fun _ => ?_) ?_) <;> conv => whnf) | ((with_reducible refine AltK.l ?_); (conv => whnf); (with_reducible refine Need.mk ?_ ?_); (first | omega | (refine ⟨?_, ?_⟩ <;> simp <;> omega) | (simp; omega)); conv => whnf) | ((with_reducible refine Need.mk ?_ ?_); (first | omega | rfl | decide | (refine ⟨?_, ?_⟩ <;> simp <;> omega) | (simp; omega)); conv => whnf) | ((with_reducible refine Wr.quo ?_ ?_ ?_ ?_); omega; omega; omega; conv => whnf) | ((with_reducible refine Wr.inr ?_ ?_); (first | omega | (simp; omega)); conv => whnf) | ((with_reducible refine Wr.inu ?_ ?_); omega; conv => whnf) | ((with_reducible refine AltK.l ?_); (conv => whnf); (first | (refine CallK.mk _ (hI) ?_) | (refine CallK.mk _ (hFa) ?_) | (refine CallK.mk _ (hFb) ?_)); conv => whnf) | (exfalso; first | omega | contradiction))
            exact Again.au (i + 1, o) ⟨by omega, hT⟩ (by dsimp only; omega) (by refine ⟨?_, ?_, rfl⟩ <;> (repeat' (first | exact True.intro | exact rfl | refine ⟨?_, ?_⟩ | (intro h; cases h; done) | (intro h; exact h) | exact map_snoc | (refine own_congr ?_; simp; done) | (refine int_congr ?_; (first | omega | (simp; omega))) | (simp; done))))
  · rw [List.drop_eq_nil_of_le (by omega)] at hT
    have hT' : T = o := by rw [hT]; cases pvS g.marks i <;> simp [tnS]
    subst hT'
    conv => whnf
    repeat' (first | ((with_reducible refine Split.of_true ?_); conv => whnf) | ((with_reducible refine Split.of_false ?_); conv => whnf) | ((with_reducible refine Split.neg ?_)) | ((with_reducible refine Split.is_true ?_ ?_); decide; conv => whnf) | ((with_reducible refine Split.is_false ?_ ?_); decide; conv => whnf) | ((with_reducible refine Split.nez (fun _ => ?_) (fun _ => ?_)) <;> conv => whnf) | ((with_reducible refine Split.eqz (fun _ => ?_) (fun _ => ?_)) <;> conv => whnf) | ((with_reducible refine Split.and ?_)) | ((with_reducible refine Split.or ?_)) | ((with_reducible refine Split.streq (fun _ => ?_) (fun _ => ?_)) <;> conv => whnf) | ((with_reducible refine Split.dec (fun _ => ?_) (fun _ => ?_)) <;> conv => whnf) | ((with_reducible refine Split.mk (fun _ => ?_) (fun _ => ?_)) <;> conv => whnf) | ((with_reducible refine NilK.mk (fun _ => ?_) ?_) <;> conv => whnf) | ((with_reducible refine AltK.l ?_); (conv => whnf); (with_reducible refine Need.mk ?_ ?_); (first | omega | (refine ⟨?_, ?_⟩ <;> simp <;> omega) | (simp; omega)); conv => whnf) | ((with_reducible refine Need.mk ?_ ?_); (first | omega | rfl | decide | (refine ⟨?_, ?_⟩ <;> simp <;> omega) | (simp; omega)); conv => whnf) | ((with_reducible refine Wr.quo ?_ ?_ ?_ ?_); omega; omega; omega; conv => whnf) | ((with_reducible refine Wr.inr ?_ ?_); (first | omega | (simp; omega)); conv => whnf) | ((with_reducible refine Wr.inu ?_ ?_); omega; conv => whnf) | (exfalso; first | omega | contradiction))
    exact ⟨⟨[(9, some 200)], (by refine ⟨?_, ?_, rfl⟩ <;> (repeat' (first | exact True.intro | exact rfl | refine ⟨?_, ?_⟩ | (intro h; cases h; done) | (intro h; exact h) | exact map_snoc | (refine own_congr ?_; simp; done) | (refine int_congr ?_; (first | omega | (simp; omega))) | (simp; done))))⟩, rfl⟩
end Go.Proofs.Try
end

section
/- A library function of the seat, laid (written by lay.sh). -/
open Go Go.Shelf
namespace Go.Proofs
def ly_LyT_ren : Shelf.Ren := ⟨fun | 6 => 31 | 15 => 45 | 14 => 44 | 28 => 61 | 29 => 62 | 20 => 52 | 21 => 54 | 22 => 55 | 23 => 56 | 24 => 57 | 25 => 58 | 26 => 59 | 27 => 60 | 46 => 66 | 47 => 67 | 48 => 68 | 49 => 69 | 50 => 70 | 57 => 72 | n => n, fun | 22 => 22 | 24 => 51 | 25 => 53 | 3 => 3 | 39 => 73 | 0 => 0 | 53 => 87 | 55 => 89 | 4 => 4 | 46 => 80 | 45 => 79 | 50 => 84 | 5 => 5 | 9 => 9 | 66 => 92 | 70 => 96 | 76 => 98 | 77 => 99 | n => n, fun | n => n⟩
theorem ly_LyT : Go.Proofs.SlLaysF0.n6 Try.prog ly_LyT_ren where
  mixed := by kernel_rfl
  f6 := ⟨ "slices.SortFunc[[]draghead/api.Mark,draghead/api.Mark]", by decide, Try.func31.trans (congrArg some (by kernel_rfl))⟩
  f14 := ⟨ "slices.pdqsortCmpFunc[draghead/api.Mark]", by decide, Try.func44.trans (congrArg some (by kernel_rfl))⟩
  f15 := Try.func45.trans (congrArg some (by kernel_rfl))
  f20 := ⟨ "slices.insertionSortCmpFunc[draghead/api.Mark]", by decide, Try.func52.trans (congrArg some (by kernel_rfl))⟩
  f21 := ⟨ "slices.heapSortCmpFunc[draghead/api.Mark]", by decide, Try.func54.trans (congrArg some (by kernel_rfl))⟩
  f22 := ⟨ "slices.breakPatternsCmpFunc[draghead/api.Mark]", by decide, Try.func55.trans (congrArg some (by kernel_rfl))⟩
  f23 := ⟨ "slices.choosePivotCmpFunc[draghead/api.Mark]", by decide, Try.func56.trans (congrArg some (by kernel_rfl))⟩
  f24 := ⟨ "slices.reverseRangeCmpFunc[draghead/api.Mark]", by decide, Try.func57.trans (congrArg some (by kernel_rfl))⟩
  f25 := ⟨ "slices.partialInsertionSortCmpFunc[draghead/api.Mark]", by decide, Try.func58.trans (congrArg some (by kernel_rfl))⟩
  f26 := ⟨ "slices.partitionEqualCmpFunc[draghead/api.Mark]", by decide, Try.func59.trans (congrArg some (by kernel_rfl))⟩
  f27 := ⟨ "slices.partitionCmpFunc[draghead/api.Mark]", by decide, Try.func60.trans (congrArg some (by kernel_rfl))⟩
  f28 := Try.func61.trans (congrArg some (by kernel_rfl))
  f29 := Try.func62.trans (congrArg some (by kernel_rfl))
  f46 := ⟨ "slices.siftDownCmpFunc[draghead/api.Mark]", by decide, Try.func66.trans (congrArg some (by kernel_rfl))⟩
  f47 := Try.func67.trans (congrArg some (by kernel_rfl))
  f48 := Try.func68.trans (congrArg some (by kernel_rfl))
  f49 := ⟨ "slices.medianAdjacentCmpFunc[draghead/api.Mark]", by decide, Try.func69.trans (congrArg some (by kernel_rfl))⟩
  f50 := ⟨ "slices.medianCmpFunc[draghead/api.Mark]", by decide, Try.func70.trans (congrArg some (by kernel_rfl))⟩
  f57 := ⟨ "slices.order2CmpFunc[draghead/api.Mark]", by decide, Try.func72.trans (congrArg some (by kernel_rfl))⟩
  t0 := Try.underlying0
  a0 := Try.isAgg0
  z0 := Try.sizeOf0
  v0 := Try.zeroValue0
  t3 := Try.underlying3
  a3 := Try.isAgg3
  z3 := Try.sizeOf3
  v3 := Try.zeroValue3
  t4 := Try.underlying4
  a4 := Try.isAgg4
  z4 := Try.sizeOf4
  v4 := Try.zeroValue4
  t5 := Try.underlying5
  a5 := Try.isAgg5
  z5 := Try.sizeOf5
  v5 := Try.zeroValue5
  t9 := Try.underlying9
  a9 := Try.isAgg9
  z9 := Try.sizeOf9
  v9 := Try.zeroValue9
  t22 := Try.underlying22
  a22 := Try.isAgg22
  z22 := Try.sizeOf22
  v22 := Try.zeroValue22
  t25 := Try.underlying53
  a25 := Try.isAgg53
  z25 := Try.sizeOf53
  v25 := Try.zeroValue53
  t39 := Try.underlying73
  a39 := Try.isAgg73
  z39 := Try.sizeOf73
  v39 := Try.zeroValue73
  t45 := Try.underlying79
  a45 := Try.isAgg79
  z45 := Try.sizeOf79
  v45 := Try.zeroValue79
  t46 := Try.underlying80
  a46 := Try.isAgg80
  z46 := Try.sizeOf80
  v46 := Try.zeroValue80
  t50 := Try.underlying84
  a50 := Try.isAgg84
  z50 := Try.sizeOf84
  v50 := Try.zeroValue84
  t53 := Try.underlying87
  a53 := Try.isAgg87
  z53 := Try.sizeOf87
  v53 := Try.zeroValue87
  t55 := Try.underlying89
  a55 := Try.isAgg89
  z55 := Try.sizeOf89
  v55 := Try.zeroValue89
  t66 := Try.underlying92
  a66 := Try.isAgg92
  z66 := Try.sizeOf92
  v66 := Try.zeroValue92
  t70 := Try.underlying96
  a70 := Try.isAgg96
  z70 := Try.sizeOf96
  v70 := Try.zeroValue96
  t76 := Try.underlying98
  a76 := Try.isAgg98
  z76 := Try.sizeOf98
  v76 := Try.zeroValue98
  t77 := Try.underlying99
  a77 := Try.isAgg99
  z77 := Try.sizeOf99
  v77 := Try.zeroValue99
end Go.Proofs
end
