import Derived.Test.YtgfaonnajdoeoaaTrA
namespace Go.Proofs.Try
open Go Go.Vm
set_option maxRecDepth 20000
set_option maxHeartbeats 2000000
structure Re where
  name : ByteArray
  x : Int
  level : Int
  minutes : Int
  clear : Int
  wait : Bool
  one : Bool
def reD (r : Re) : D := .agg [.str r.name, .int .i64 r.x, .int .i64 r.level, .int .i64 r.minutes, .int .i64 r.clear, .bool r.wait, .bool r.one]
structure Tk where
  reach : ByteArray
  lo : Int
  hi : Int
def tkD (t : Tk) : D := .agg [.str t.reach, .int .i64 t.lo, .int .i64 t.hi]
structure Fw where
  gauges : List Ga
  reaches : List Re
  taken : List Tk
def fwD (f : Fw) : D := .agg [.sl 4 (f.gauges.map gD), .sl 7 (f.reaches.map reD), .sl 3 (f.taken.map tkD)]
def nmEq (a b : ByteArray) : Bool := a.toList == b.toList
theorem nmEq_self (a : ByteArray) : nmEq a a = true := by simp [nmEq]
theorem nmEq_ne {a b : ByteArray} (h : a ≠ b) : nmEq a b = false := by
  rw [Bool.eq_false_iff]; intro h1; exact h (toList_inj (by simpa [nmEq] using h1))
def reachI (l : List Re) (s : ByteArray) : Int := match l.findIdx? (fun r => nmEq r.name s) with | some i => (i : Int) | none => -1
theorem ev_IndexR (l : List Re) (f : Nat) (caps : List D) (p : Re → Bool) (hn : l.length ≤ 1000000) (hf : ∀ g ∈ l, Ev Try.prog f ([reD g] ++ caps) (.bool (p g))) :
    Ev Try.prog 42 [.sl 7 (l.map reD), .fn f caps] (.int .i64 (match l.findIdx? p with | some i => (i : Int) | none => -1)) := by
  have hlen : (l.map reD).length = l.length := List.length_map _
  refine ev_of_awp tysOk mixed (fn := Try.f42) Try.func42 rfl rfl rfl ?_
  conv => whnf
  repeat' (first
    | ((with_reducible refine Split.of_true ?_); conv => whnf)
    | ((with_reducible refine Split.of_false ?_); conv => whnf)
    | ((with_reducible refine Split.neg ?_))
    | ((with_reducible refine Split.is_true ?_ ?_); decide; conv => whnf)
    | ((with_reducible refine Split.is_false ?_ ?_); decide; conv => whnf)
    | ((with_reducible refine Split.nez (fun _ => ?_) (fun _ => ?_)) <;> conv => whnf)
    | ((with_reducible refine Split.eqz (fun _ => ?_) (fun _ => ?_)) <;> conv => whnf)
    | ((with_reducible refine Split.and ?_))
    | ((with_reducible refine Split.or ?_))
    | ((with_reducible refine Split.streq (fun _ => ?_) (fun _ => ?_)) <;> conv => whnf)
    | ((with_reducible refine Split.dec (fun _ => ?_) (fun _ => ?_)) <;> conv => whnf)
    | ((with_reducible refine Split.mk (fun _ => ?_) (fun _ => ?_)) <;> conv => whnf)
    | ((with_reducible refine Need.mk ?_ ?_); (first | omega | rfl | decide | (refine ⟨?_, ?_⟩ <;> simp <;> omega) | (simp; omega)); conv => whnf)
    | ((with_reducible refine Wr.quo ?_ ?_ ?_ ?_); omega; omega; omega; conv => whnf)
    | ((with_reducible refine Wr.inr ?_ ?_); (first | omega | (simp; omega)); conv => whnf)
    | ((with_reducible refine Wr.inu ?_ ?_); omega; conv => whnf)
    | (exfalso; first | omega | contradiction))
  refine LoopK.o2 (fun i : Nat => i ≤ l.length ∧ ∀ g ∈ l.take i, p g = false) (fun i => [(8, .d (.int .i64 i))]) (fun _ => []) (fun i => l.length - i) 0 (by simp) ⟨by (repeat' (first | exact True.intro | exact rfl | refine ⟨?_, ?_⟩ | (intro h; cases h; done) | (intro h; exact h) | exact map_snoc | (refine own_congr ?_; simp; done) | (refine int_congr ?_; (first | omega | (simp; omega))) | (simp; done))), by (repeat' (first | exact True.intro | exact rfl | refine ⟨?_, ?_⟩ | (intro h; cases h; done) | (intro h; exact h) | exact map_snoc | (refine own_congr ?_; simp; done) | (refine int_congr ?_; (first | omega | (simp; omega))) | (simp; done))), rfl⟩ ?_
  rintro i ⟨hi, hp⟩
  have hn : (i : Int) < l.length → ∃ m, l[i]? = some m := fun h => some_of_lt (by omega)
  conv => whnf
  repeat' (first
    | ((with_reducible refine Split.of_true ?_); conv => whnf)
    | ((with_reducible refine Split.of_false ?_); conv => whnf)
    | ((with_reducible refine Split.neg ?_))
    | ((with_reducible refine Split.is_true ?_ ?_); decide; conv => whnf)
    | ((with_reducible refine Split.is_false ?_ ?_); decide; conv => whnf)
    | ((with_reducible refine Split.nez (fun _ => ?_) (fun _ => ?_)) <;> conv => whnf)
    | ((with_reducible refine Split.eqz (fun _ => ?_) (fun _ => ?_)) <;> conv => whnf)
    | ((with_reducible refine Split.and ?_))
    | ((with_reducible refine Split.or ?_))
    | ((with_reducible refine Split.streq (fun _ => ?_) (fun _ => ?_)) <;> conv => whnf)
    | ((with_reducible refine Split.dec (fun _ => ?_) (fun _ => ?_)) <;> conv => whnf)
    | ((with_reducible refine Split.mk (fun _ => ?_) (fun _ => ?_)) <;> conv => whnf)
    | ((with_reducible refine Need.mk ?_ ?_); (first | omega | rfl | decide | (refine ⟨?_, ?_⟩ <;> simp <;> omega) | (simp; omega)); conv => whnf)
    | ((with_reducible refine Wr.quo ?_ ?_ ?_ ?_); omega; omega; omega; conv => whnf)
    | ((with_reducible refine Wr.inr ?_ ?_); (first | omega | (simp; omega)); conv => whnf)
    | ((with_reducible refine Wr.inu ?_ ?_); omega; conv => whnf)
    | (exfalso; first | omega | contradiction))
  · obtain ⟨g, hg⟩ := hn (by omega)
    have hf := hf g (List.mem_of_getElem? hg)
    conv => whnf
    repeat' (first
      | ((refine PickE.map i hg (by omega) ?_); conv => whnf)
      | ((with_reducible refine Split.of_true ?_); conv => whnf)
      | ((with_reducible refine Split.of_false ?_); conv => whnf)
      | ((with_reducible refine Split.neg ?_))
      | ((with_reducible refine Split.is_true ?_ ?_); decide; conv => whnf)
      | ((with_reducible refine Split.is_false ?_ ?_); decide; conv => whnf)
      | ((with_reducible refine Split.nez (fun _ => ?_) (fun _ => ?_)) <;> conv => whnf)
      | ((with_reducible refine Split.eqz (fun _ => ?_) (fun _ => ?_)) <;> conv => whnf)
      | ((with_reducible refine Split.and ?_))
      | ((with_reducible refine Split.or ?_))
      | ((with_reducible refine Split.streq (fun _ => ?_) (fun _ => ?_)) <;> conv => whnf)
      | ((with_reducible refine Split.dec (fun _ => ?_) (fun _ => ?_)) <;> conv => whnf)
      | ((with_reducible refine Split.mk (fun _ => ?_) (fun _ => ?_)) <;> conv => whnf)
      | ((with_reducible refine Need.mk ?_ ?_); (first | omega | rfl | decide | (refine ⟨?_, ?_⟩ <;> simp <;> omega) | (simp; omega)); conv => whnf)
      | ((with_reducible refine Wr.quo ?_ ?_ ?_ ?_); omega; omega; omega; conv => whnf)
      | ((with_reducible refine Wr.inr ?_ ?_); (first | omega | (simp; omega)); conv => whnf)
      | ((with_reducible refine Wr.inu ?_ ?_); omega; conv => whnf)
      | (exfalso; first | omega | contradiction))
    refine CallK.mk _ hf ?_
    conv => whnf
    refine Split.mk (fun hpg => ?_) (fun hpg => ?_)
    · conv => whnf
      repeat' (first
        | ((with_reducible refine Split.of_true ?_); conv => whnf)
        | ((with_reducible refine Split.of_false ?_); conv => whnf)
        | ((with_reducible refine Split.neg ?_))
        | ((with_reducible refine Split.is_true ?_ ?_); decide; conv => whnf)
        | ((with_reducible refine Split.is_false ?_ ?_); decide; conv => whnf)
        | ((with_reducible refine Split.nez (fun _ => ?_) (fun _ => ?_)) <;> conv => whnf)
        | ((with_reducible refine Split.eqz (fun _ => ?_) (fun _ => ?_)) <;> conv => whnf)
        | ((with_reducible refine Split.and ?_))
        | ((with_reducible refine Split.or ?_))
        | ((with_reducible refine Split.streq (fun _ => ?_) (fun _ => ?_)) <;> conv => whnf)
        | ((with_reducible refine Split.dec (fun _ => ?_) (fun _ => ?_)) <;> conv => whnf)
        | ((with_reducible refine Split.mk (fun _ => ?_) (fun _ => ?_)) <;> conv => whnf)
        | ((with_reducible refine Need.mk ?_ ?_); (first | omega | rfl | decide | (refine ⟨?_, ?_⟩ <;> simp <;> omega) | (simp; omega)); conv => whnf)
        | ((with_reducible refine Wr.quo ?_ ?_ ?_ ?_); omega; omega; omega; conv => whnf)
        | ((with_reducible refine Wr.inr ?_ ?_); (first | omega | (simp; omega)); conv => whnf)
        | ((with_reducible refine Wr.inu ?_ ?_); omega; conv => whnf)
        | (exfalso; first | omega | contradiction))
      have e : l.findIdx? p = some i := by
        rw [List.findIdx?_eq_some_iff_getElem]
        refine ⟨by omega, by rw [(List.getElem?_eq_some_iff.1 hg).2]; exact hpg, fun j hj => ?_⟩
        have := hp l[j] (List.mem_take_iff_getElem.2 ⟨j, by omega, rfl⟩)
        rw [this]; decide
      rw [e]; rfl
    · conv => whnf
      conv => whnf
      repeat' (first
        | ((with_reducible refine Split.of_true ?_); conv => whnf)
        | ((with_reducible refine Split.of_false ?_); conv => whnf)
        | ((with_reducible refine Split.neg ?_))
        | ((with_reducible refine Split.is_true ?_ ?_); decide; conv => whnf)
        | ((with_reducible refine Split.is_false ?_ ?_); decide; conv => whnf)
        | ((with_reducible refine Split.nez (fun _ => ?_) (fun _ => ?_)) <;> conv => whnf)
        | ((with_reducible refine Split.eqz (fun _ => ?_) (fun _ => ?_)) <;> conv => whnf)
        | ((with_reducible refine Split.and ?_))
        | ((with_reducible refine Split.or ?_))
        | ((with_reducible refine Split.streq (fun _ => ?_) (fun _ => ?_)) <;> conv => whnf)
        | ((with_reducible refine Split.dec (fun _ => ?_) (fun _ => ?_)) <;> conv => whnf)
        | ((with_reducible refine Split.mk (fun _ => ?_) (fun _ => ?_)) <;> conv => whnf)
        | ((with_reducible refine Need.mk ?_ ?_); (first | omega | rfl | decide | (refine ⟨?_, ?_⟩ <;> simp <;> omega) | (simp; omega)); conv => whnf)
        | ((with_reducible refine Wr.quo ?_ ?_ ?_ ?_); omega; omega; omega; conv => whnf)
        | ((with_reducible refine Wr.inr ?_ ?_); (first | omega | (simp; omega)); conv => whnf)
        | ((with_reducible refine Wr.inu ?_ ?_); omega; conv => whnf)
        | (exfalso; first | omega | contradiction))
      refine Again.au (i + 1) ⟨by omega, fun x hx => ?_⟩ (by omega) ⟨by (repeat' (first | exact True.intro | exact rfl | refine ⟨?_, ?_⟩ | (intro h; cases h; done) | (intro h; exact h) | exact map_snoc | (refine own_congr ?_; simp; done) | (refine int_congr ?_; (first | omega | (simp; omega))) | (simp; done))), by (repeat' (first | exact True.intro | exact rfl | refine ⟨?_, ?_⟩ | (intro h; cases h; done) | (intro h; exact h) | exact map_snoc | (refine own_congr ?_; simp; done) | (refine int_congr ?_; (first | omega | (simp; omega))) | (simp; done))), rfl⟩
      rw [take_snoc hg] at hx
      rcases List.mem_append.1 hx with hx | hx
      · exact hp x hx
      · rw [List.mem_singleton.1 hx]; exact hpg
  · have e : l.findIdx? p = none := by
      rw [List.findIdx?_eq_none_iff]
      intro x hx
      rw [← List.take_of_length_le (show l.length ≤ i by omega)] at hx
      exact hp x hx
    rw [e]; rfl
theorem ev_reachOf1 (r : Re) (s : ByteArray) : Ev Try.prog 43 [reD r, .ref [.str s] 0] (.bool (nmEq r.name s)) := by
  refine ev_of_awp tysOk mixed (fn := Try.f43) Try.func43 rfl rfl rfl ?_
  conv => whnf
  repeat' (first
    | ((with_reducible refine Split.of_true ?_); conv => whnf)
    | ((with_reducible refine Split.of_false ?_); conv => whnf)
    | ((with_reducible refine Split.neg ?_))
    | ((with_reducible refine Split.is_true ?_ ?_); decide; conv => whnf)
    | ((with_reducible refine Split.is_false ?_ ?_); decide; conv => whnf)
    | ((with_reducible refine Split.nez (fun _ => ?_) (fun _ => ?_)) <;> conv => whnf)
    | ((with_reducible refine Split.eqz (fun _ => ?_) (fun _ => ?_)) <;> conv => whnf)
    | ((with_reducible refine Split.and ?_))
    | ((with_reducible refine Split.or ?_))
    | ((with_reducible refine Split.streq (fun _ => ?_) (fun _ => ?_)) <;> conv => whnf)
    | ((with_reducible refine Split.dec (fun _ => ?_) (fun _ => ?_)) <;> conv => whnf)
    | ((with_reducible refine Split.mk (fun _ => ?_) (fun _ => ?_)) <;> conv => whnf)
    | ((with_reducible refine Need.mk ?_ ?_); (first | omega | rfl | decide | (refine ⟨?_, ?_⟩ <;> simp <;> omega) | (simp; omega)); conv => whnf)
    | ((with_reducible refine Wr.quo ?_ ?_ ?_ ?_); omega; omega; omega; conv => whnf)
    | ((with_reducible refine Wr.inr ?_ ?_); (first | omega | (simp; omega)); conv => whnf)
    | ((with_reducible refine Wr.inu ?_ ?_); omega; conv => whnf)
    | (exfalso; first | omega | contradiction))
  all_goals (simp_all [retOf, nmEq])
theorem ev_reachOf (f : Fw) (s : ByteArray) (hl : f.reaches.length ≤ 1000000) : Ev Try.prog 29 [fwD f, .str s] (iD (reachI f.reaches s)) := by
  have h := ev_IndexR f.reaches 43 [.ref [.str s] 0] (fun r => nmEq r.name s) hl (fun r _ => ev_reachOf1 r s)
  refine ev_of_awp tysOk mixed (fn := Try.f29) Try.func29 rfl rfl rfl ?_
  conv => whnf
  repeat' (first
    | ((with_reducible refine Split.of_true ?_); conv => whnf)
    | ((with_reducible refine Split.of_false ?_); conv => whnf)
    | ((with_reducible refine Split.neg ?_))
    | ((with_reducible refine Split.is_true ?_ ?_); decide; conv => whnf)
    | ((with_reducible refine Split.is_false ?_ ?_); decide; conv => whnf)
    | ((with_reducible refine Split.nez (fun _ => ?_) (fun _ => ?_)) <;> conv => whnf)
    | ((with_reducible refine Split.eqz (fun _ => ?_) (fun _ => ?_)) <;> conv => whnf)
    | ((with_reducible refine Split.and ?_))
    | ((with_reducible refine Split.or ?_))
    | ((with_reducible refine Split.streq (fun _ => ?_) (fun _ => ?_)) <;> conv => whnf)
    | ((with_reducible refine Split.dec (fun _ => ?_) (fun _ => ?_)) <;> conv => whnf)
    | ((with_reducible refine Split.mk (fun _ => ?_) (fun _ => ?_)) <;> conv => whnf)
    | ((with_reducible refine Need.mk ?_ ?_); (first | omega | rfl | decide | (refine ⟨?_, ?_⟩ <;> simp <;> omega) | (simp; omega)); conv => whnf)
    | ((with_reducible refine Wr.quo ?_ ?_ ?_ ?_); omega; omega; omega; conv => whnf)
    | ((with_reducible refine Wr.inr ?_ ?_); (first | omega | (simp; omega)); conv => whnf)
    | ((with_reducible refine Wr.inu ?_ ?_); omega; conv => whnf)
    | (refine CallK.mk _ (h) ?_; conv => whnf)
    | (exfalso; first | omega | contradiction))
  rfl
theorem ev_ReachOf (f : Fw) (s : ByteArray) (hl : f.reaches.length ≤ 1000000) : Ev Try.prog 16 [fwD f, .str s] (iD (reachI f.reaches s)) := by
  have hlen : (f.reaches.map reD).length = f.reaches.length := List.length_map _
  refine ev_of_awp tysOk mixed (fn := Try.f16) Try.func16 rfl rfl rfl ?_
  conv => whnf
  repeat' (first
    | ((with_reducible refine Split.of_true ?_); conv => whnf)
    | ((with_reducible refine Split.of_false ?_); conv => whnf)
    | ((with_reducible refine Split.neg ?_))
    | ((with_reducible refine Split.is_true ?_ ?_); decide; conv => whnf)
    | ((with_reducible refine Split.is_false ?_ ?_); decide; conv => whnf)
    | ((with_reducible refine Split.nez (fun _ => ?_) (fun _ => ?_)) <;> conv => whnf)
    | ((with_reducible refine Split.eqz (fun _ => ?_) (fun _ => ?_)) <;> conv => whnf)
    | ((with_reducible refine Split.and ?_))
    | ((with_reducible refine Split.or ?_))
    | ((with_reducible refine Split.streq (fun _ => ?_) (fun _ => ?_)) <;> conv => whnf)
    | ((with_reducible refine Split.dec (fun _ => ?_) (fun _ => ?_)) <;> conv => whnf)
    | ((with_reducible refine Split.mk (fun _ => ?_) (fun _ => ?_)) <;> conv => whnf)
    | ((with_reducible refine Need.mk ?_ ?_); (first | omega | rfl | decide | (refine ⟨?_, ?_⟩ <;> simp <;> omega) | (simp; omega)); conv => whnf)
    | ((with_reducible refine Wr.quo ?_ ?_ ?_ ?_); omega; omega; omega; conv => whnf)
    | ((with_reducible refine Wr.inr ?_ ?_); (first | omega | (simp; omega)); conv => whnf)
    | ((with_reducible refine Wr.inu ?_ ?_); omega; conv => whnf)
    | (exfalso; first | omega | contradiction))
  refine LoopK.ov (fun i : Nat => i ≤ f.reaches.length ∧ ∀ g ∈ f.reaches.take i, nmEq g.name s = false) (fun i => [(5, .d (.int .i64 i))]) [] (fun _ => []) (fun i => f.reaches.length - i) 0 (by simp) ⟨by (repeat' (first | exact True.intro | exact rfl | refine ⟨?_, ?_⟩ | (intro h; cases h; done) | (intro h; exact h) | exact map_snoc | (refine own_congr ?_; simp; done) | (refine int_congr ?_; (first | omega | (simp; omega))) | (simp; done))), by (repeat' (first | exact True.intro | exact rfl | refine ⟨?_, ?_⟩ | (intro h; cases h; done) | (intro h; exact h) | exact map_snoc | (refine own_congr ?_; simp; done) | (refine int_congr ?_; (first | omega | (simp; omega))) | (simp; done))), rfl⟩ ?_
  rintro i ⟨hi, hp⟩
  by_cases hlt : i < f.reaches.length
  · obtain ⟨g, hg⟩ := some_of_lt hlt
    conv => whnf
    repeat' (first
      | ((refine PickE.map i hg (by omega) ?_); conv => whnf)
      | ((with_reducible refine Split.of_true ?_); conv => whnf)
      | ((with_reducible refine Split.of_false ?_); conv => whnf)
      | ((with_reducible refine Split.neg ?_))
      | ((with_reducible refine Split.is_true ?_ ?_); decide; conv => whnf)
      | ((with_reducible refine Split.is_false ?_ ?_); decide; conv => whnf)
      | ((with_reducible refine Split.nez (fun _ => ?_) (fun _ => ?_)) <;> conv => whnf)
      | ((with_reducible refine Split.eqz (fun _ => ?_) (fun _ => ?_)) <;> conv => whnf)
      | ((with_reducible refine Split.and ?_))
      | ((with_reducible refine Split.or ?_))
      | ((with_reducible refine Split.streq (fun _ => ?_) (fun _ => ?_)) <;> conv => whnf)
      | ((with_reducible refine Split.dec (fun _ => ?_) (fun _ => ?_)) <;> conv => whnf)
      | ((with_reducible refine Split.mk (fun _ => ?_) (fun _ => ?_)) <;> conv => whnf)
      | ((with_reducible refine Need.mk ?_ ?_); (first | omega | rfl | decide | (refine ⟨?_, ?_⟩ <;> simp <;> omega) | (simp; omega)); conv => whnf)
      | ((with_reducible refine Wr.quo ?_ ?_ ?_ ?_); omega; omega; omega; conv => whnf)
      | ((with_reducible refine Wr.inr ?_ ?_); (first | omega | (simp; omega)); conv => whnf)
      | ((with_reducible refine Wr.inu ?_ ?_); omega; conv => whnf)
      | (exfalso; first | omega | contradiction))
    · have hgs : g.name = s := by assumption
      have e : f.reaches.findIdx? (fun r => nmEq r.name s) = some i := by
        rw [List.findIdx?_eq_some_iff_getElem]
        refine ⟨hlt, by rw [(List.getElem?_eq_some_iff.1 hg).2, hgs]; exact nmEq_self s, fun j hj => ?_⟩
        have := hp f.reaches[j] (List.mem_take_iff_getElem.2 ⟨j, by omega, rfl⟩)
        rw [this]; decide
      rw [reachI, e]; rfl
    · have hgs : g.name ≠ s := by assumption
      refine Again.au (i + 1) ⟨by omega, fun x hx => ?_⟩ (by omega) ⟨by (repeat' (first | exact True.intro | exact rfl | refine ⟨?_, ?_⟩ | (intro h; cases h; done) | (intro h; exact h) | exact map_snoc | (refine own_congr ?_; simp; done) | (refine int_congr ?_; (first | omega | (simp; omega))) | (simp; done))), by (repeat' (first | exact True.intro | exact rfl | refine ⟨?_, ?_⟩ | (intro h; cases h; done) | (intro h; exact h) | exact map_snoc | (refine own_congr ?_; simp; done) | (refine int_congr ?_; (first | omega | (simp; omega))) | (simp; done))), rfl⟩
      rw [take_snoc hg] at hx
      rcases List.mem_append.1 hx with hx | hx
      · exact hp x hx
      · rw [List.mem_singleton.1 hx]; exact nmEq_ne hgs
  · have e : f.reaches.findIdx? (fun r => nmEq r.name s) = none := by
      rw [List.findIdx?_eq_none_iff]
      intro x hx
      rw [← List.take_of_length_le (show f.reaches.length ≤ i by omega)] at hx
      exact hp x hx
    conv => whnf
    repeat' (first
      | ((with_reducible refine Split.of_true ?_); conv => whnf)
      | ((with_reducible refine Split.of_false ?_); conv => whnf)
      | ((with_reducible refine Split.neg ?_))
      | ((with_reducible refine Split.is_true ?_ ?_); decide; conv => whnf)
      | ((with_reducible refine Split.is_false ?_ ?_); decide; conv => whnf)
      | ((with_reducible refine Split.nez (fun _ => ?_) (fun _ => ?_)) <;> conv => whnf)
      | ((with_reducible refine Split.eqz (fun _ => ?_) (fun _ => ?_)) <;> conv => whnf)
      | ((with_reducible refine Split.and ?_))
      | ((with_reducible refine Split.or ?_))
      | ((with_reducible refine Split.streq (fun _ => ?_) (fun _ => ?_)) <;> conv => whnf)
      | ((with_reducible refine Split.dec (fun _ => ?_) (fun _ => ?_)) <;> conv => whnf)
      | ((with_reducible refine Split.mk (fun _ => ?_) (fun _ => ?_)) <;> conv => whnf)
      | ((with_reducible refine Need.mk ?_ ?_); (first | omega | rfl | decide | (refine ⟨?_, ?_⟩ <;> simp <;> omega) | (simp; omega)); conv => whnf)
      | ((with_reducible refine Wr.quo ?_ ?_ ?_ ?_); omega; omega; omega; conv => whnf)
      | ((with_reducible refine Wr.inr ?_ ?_); (first | omega | (simp; omega)); conv => whnf)
      | ((with_reducible refine Wr.inu ?_ ?_); omega; conv => whnf)
      | (exfalso; first | omega | contradiction))
    rw [reachI, e]; rfl
def badRe (r : Re) : Bool := outsideB r.x (-1000000) 1000000 || outsideB r.level (-20000) 20000 || outsideB r.minutes 1 1000 || outsideB r.clear 0 1000
def reErr (l : List Re) : Nat → List Re → Int
  | _, [] => 0
  | i, r :: t => if nameB r.name = false then 4 else if reachI l r.name ≠ i then 5 else if badRe r then 2 else reErr l (i + 1) t
def tkErr (l : List Re) : List Tk → Int
  | [] => 0
  | k :: t => if reachI l k.reach < 0 then 6 else if k.lo < 0 ∨ k.hi < k.lo ∨ 1000000 < k.hi then 2 else tkErr l t
def fwErr (f : Fw) : Int := if gsErr f.gauges ≠ 0 then gsErr f.gauges else if f.reaches.length = 0 then 10 else if 8 < f.reaches.length then 8 else
  if reErr f.reaches 0 f.reaches ≠ 0 then reErr f.reaches 0 f.reaches else if 60 < f.taken.length then 8 else tkErr f.reaches f.taken
end Go.Proofs.Try
