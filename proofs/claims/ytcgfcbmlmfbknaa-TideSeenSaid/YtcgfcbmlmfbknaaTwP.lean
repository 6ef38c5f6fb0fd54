import Derived.Test.YtcgfcbmlmfbknaaTwO
namespace Go.Proofs.Try
open Go Go.Vm
set_option maxRecDepth 20000
set_option maxHeartbeats 2000000
/-- Is the level known, and does it satisfy the condition? -/
def gdB (l : List Ga) (x : Int) (p : Int → Int → Bool) (t : Int) : Bool := (lvS l x t).2.2 && p (lvS l x t).1 (lvS l x t).2.1
def wAdd (o : List (Int × Int)) (t : Int) : List (Int × Int) := match o.getLast? with
  | some z => if z.2 = t - 1 then o.dropLast ++ [(z.1, t)] else o ++ [(t, t)]
  | none => o ++ [(t, t)]
/-- The windows of the first k minutes. -/
def winS (l : List Ga) (x : Int) (p : Int → Int → Bool) (a : Int) : Nat → List (Int × Int)
  | 0 => []
  | k + 1 => if gdB l x p (a + k) then wAdd (winS l x p a k) (a + k) else winS l x p a k
theorem wAdd_snoc (o : List (Int × Int)) (z : Int × Int) (t : Int) : wAdd (o ++ [z]) t = if z.2 = t - 1 then o ++ [(z.1, t)] else o ++ [z] ++ [(t, t)] := by
  simp [wAdd]
theorem win_len (l : List Ga) (x : Int) (p : Int → Int → Bool) (a : Int) : ∀ k, (winS l x p a k).length ≤ k
  | 0 => by simp [winS]
  | k + 1 => by
    have ih := win_len l x p a k
    rw [winS]
    split
    · rcases nil_or_snoc (winS l x p a k) with h | ⟨o, z, h⟩
      · rw [h]; simp [wAdd]
      · rw [h] at ih ⊢
        rw [wAdd_snoc]
        split <;> simp at ih ⊢ <;> omega
    · omega
theorem win_lt (l : List Ga) (x : Int) (p : Int → Int → Bool) (a : Int) : ∀ k, ∀ z ∈ winS l x p a k, z.2 < a + k
  | 0, z, h => by cases h
  | k + 1, z, h => by
    have ih := win_lt l x p a k
    rw [winS] at h
    split at h
    · rcases nil_or_snoc (winS l x p a k) with e | ⟨o, y, e⟩
      · rw [e] at h; simp [wAdd] at h; subst h; dsimp only; omega
      · rw [e] at ih h
        rw [wAdd_snoc] at h
        split at h
        · rcases List.mem_append.1 h with h | h
          · have := ih z (by simp [h]); omega
          · rw [List.mem_singleton.1 h]; dsimp only; omega
        · rcases List.mem_append.1 h with h | h
          · have := ih z h; omega
          · rw [List.mem_singleton.1 h]; dsimp only; omega
    · have := ih z h; omega
def opB (l : List Ga) (x : Int) (p : Int → Int → Bool) (a : Int) : Nat → Bool
  | 0 => false
  | k + 1 => gdB l x p (a + k)
theorem win_open {l : List Ga} {x : Int} {p : Int → Int → Bool} {a : Int} : ∀ {k : Nat}, opB l x p a k = true → ∃ o z, winS l x p a k = o ++ [z] ∧ z.2 = a + k - 1
  | 0, h => by cases h
  | k + 1, h => by
    rw [opB] at h
    rw [winS, if_pos h]
    rcases nil_or_snoc (winS l x p a k) with e | ⟨o, y, e⟩
    · rw [e]; exact ⟨[], _, rfl, by dsimp only; omega⟩
    · rw [e, wAdd_snoc]
      split
      · exact ⟨_, _, rfl, by dsimp only; omega⟩
      · exact ⟨_, _, rfl, by dsimp only; omega⟩
theorem win_shut {l : List Ga} {x : Int} {p : Int → Int → Bool} {a : Int} : ∀ {k : Nat}, opB l x p a k = false → ∀ z ∈ winS l x p a k, z.2 < a + k - 1
  | 0, _, z, h => by cases h
  | k + 1, h, z, hz => by
    rw [opB] at h
    rw [winS, if_neg (by simp [h])] at hz
    have := win_lt l x p a k z hz
    omega
theorem set_last {α : Type} {f : α → D} {o : List α} {z : α} {n : Nat} {d : D} (hn : n = o.length) : ((o ++ [z]).map f).set n d = o.map f ++ [d] := by
  subst hn
  rw [List.map_append, List.set_append_right _ _ (by simp)]
  simp
theorem ev_win (l : List Ga) (x : Int) (w : Int × Int) (f : Nat) (caps : List D) (p : Int → Int → Bool) (h : viewErr l x w = 0) (hf : ∀ lo hi, Ev Try.prog f ([ivD lo hi] ++ caps) (.bool (p lo hi))) :
    Ev Try.prog 89 [.sl 4 (l.map gD), .int .i64 x, wD w, .fn f caps] (.sl 2 ((winS l x p w.1 (mins w)).map wD)) := by
  obtain ⟨hG, hx, hw1, hw2, hw3, hw4⟩ := view_ok h
  refine ev_of_awp tysOk mixed (fn := Try.f89) Try.func89 rfl rfl rfl ?_
  conv => whnf
  repeat' (first
    | ((with_reducible refine Split.of_true ?_); conv => whnf)
    | ((with_reducible refine Split.of_false ?_); conv => whnf)
    | ((with_reducible refine Split.neg ?_))
    | ((with_reducible refine Split.is_true ?_ ?_); decide; conv => whnf)
    | ((with_reducible refine Split.is_false ?_ ?_); decide; conv => whnf)
    | ((with_reducible refine Split.nez (fun _ => ?_) (fun _ => ?_)) <;> conv => whnf)
    | ((with_reducible refine Split.eqz (fun _ => ?_) (fun _ => ?_)) <;> conv => whnf)
    | ((with_reducible refine Split.and ?_))
    | ((with_reducible refine Split.or ?_))
    | ((with_reducible refine Split.streq (fun _ => ?_) (fun _ => ?_)) <;> conv => whnf)
    | ((with_reducible refine Split.dec (fun _ => ?_) (fun _ => ?_)) <;> conv => whnf)
    | ((with_reducible refine Split.mk (fun _ => ?_) (fun _ => ?_)) <;> conv => whnf)
    | ((with_reducible refine Need.mk ?_ ?_); (first | omega | rfl | decide | (refine ⟨?_, ?_⟩ <;> simp <;> omega) | (simp; omega)); conv => whnf)
    | ((with_reducible refine Wr.quo ?_ ?_ ?_ ?_); omega; omega; omega; conv => whnf)
    | ((with_reducible refine Wr.inr ?_ ?_); (first | omega | (simp; omega)); conv => whnf)
    | ((with_reducible refine Wr.inu ?_ ?_); omega; conv => whnf)
    | (exfalso; first | omega | contradiction))
  refine LoopK.o2 (fun k : Nat => k ≤ mins w) (fun k => [(9, .own 200 2 ((winS l x p w.1 k).map wD).length), (10, .d (.bool (opB l x p w.1 k))), (11, .d (.int .i64 (w.1 + k)))])
    (fun k => [(200, .row 65 2 ((winS l x p w.1 k).map wD) false)]) (fun k => mins w - k) 0 (by simp) ⟨by (repeat' (first | exact True.intro | exact rfl | refine ⟨?_, ?_⟩ | (intro h; cases h; done) | (intro h; exact h) | exact map_snoc | (refine own_congr ?_; simp; done) | (refine int_congr ?_; (first | omega | (simp; omega))) | (simp; done))), by (repeat' (first | exact True.intro | exact rfl | refine ⟨?_, ?_⟩ | (intro h; cases h; done) | (intro h; exact h) | exact map_snoc | (refine own_congr ?_; simp; done) | (refine int_congr ?_; (first | omega | (simp; omega))) | (simp; done))), rfl⟩ ?_
  intro k hk
  have hmk : (mins w : Int) = w.2 - w.1 + 1 := by unfold mins; omega
  have hwl := win_len l x p w.1 k
  have hwl' : ((winS l x p w.1 k).map wD).length = (winS l x p w.1 k).length := List.length_map _
  have hL : w.1 + (k : Int) ≤ w.2 → _ := fun hle => ev_level hG hx (t := w.1 + k) (by omega)
  have hs : winS l x p w.1 (k + 1) = if gdB l x p (w.1 + k) then wAdd (winS l x p w.1 k) (w.1 + k) else winS l x p w.1 k := rfl
  have ho : opB l x p w.1 (k + 1) = gdB l x p (w.1 + k) := rfl
  have hop := @win_open l x p w.1 k
  have hsh := @win_shut l x p w.1 k
  conv => whnf
  repeat' (first
    | ((with_reducible refine Split.of_true ?_); conv => whnf)
    | ((with_reducible refine Split.of_false ?_); conv => whnf)
    | ((with_reducible refine Split.neg ?_))
    | ((with_reducible refine Split.is_true ?_ ?_); decide; conv => whnf)
    | ((with_reducible refine Split.is_false ?_ ?_); decide; conv => whnf)
    | ((with_reducible refine Split.nez (fun _ => ?_) (fun _ => ?_)) <;> conv => whnf)
    | ((with_reducible refine Split.eqz (fun _ => ?_) (fun _ => ?_)) <;> conv => whnf)
    | ((with_reducible refine Split.and ?_))
    | ((with_reducible refine Split.or ?_))
    | ((with_reducible refine Split.streq (fun _ => ?_) (fun _ => ?_)) <;> conv => whnf)
    | ((with_reducible refine Split.dec (fun _ => ?_) (fun _ => ?_)) <;> conv => whnf)
    | ((with_reducible refine Split.mk (fun _ => ?_) (fun _ => ?_)) <;> conv => whnf)
    | ((with_reducible refine Need.mk ?_ ?_); (first | omega | rfl | decide | (refine ⟨?_, ?_⟩ <;> simp <;> omega) | (simp; omega)); conv => whnf)
    | ((with_reducible refine Wr.quo ?_ ?_ ?_ ?_); omega; omega; omega; conv => whnf)
    | ((with_reducible refine Wr.inr ?_ ?_); (first | omega | (simp; omega)); conv => whnf)
    | ((with_reducible refine Wr.inu ?_ ?_); omega; conv => whnf)
    | (exfalso; first | omega | contradiction))
  · have hL := hL (by omega)
    unfold gdB at hs ho
    have hf := hf (lvS l x (w.1 + k)).1 (lvS l x (w.1 + k)).2.1
    generalize lvS l x (w.1 + k) = v at *
    obtain ⟨lo, hi, ok⟩ := v
    dsimp only at hs ho hf
    cases ok with
    | false =>
      conv => whnf
      repeat' (first
        | ((with_reducible refine Split.of_true ?_); conv => whnf)
        | ((with_reducible refine Split.of_false ?_); conv => whnf)
        | ((with_reducible refine Split.neg ?_))
        | ((with_reducible refine Split.is_true ?_ ?_); decide; conv => whnf)
        | ((with_reducible refine Split.is_false ?_ ?_); decide; conv => whnf)
        | ((with_reducible refine Split.nez (fun _ => ?_) (fun _ => ?_)) <;> conv => whnf)
        | ((with_reducible refine Split.eqz (fun _ => ?_) (fun _ => ?_)) <;> conv => whnf)
        | ((with_reducible refine Split.and ?_))
        | ((with_reducible refine Split.or ?_))
        | ((with_reducible refine Split.streq (fun _ => ?_) (fun _ => ?_)) <;> conv => whnf)
        | ((with_reducible refine Split.dec (fun _ => ?_) (fun _ => ?_)) <;> conv => whnf)
        | ((with_reducible refine Split.mk (fun _ => ?_) (fun _ => ?_)) <;> conv => whnf)
        | ((with_reducible refine Need.mk ?_ ?_); (first | omega | rfl | decide | (refine ⟨?_, ?_⟩ <;> simp <;> omega) | (simp; omega)); conv => whnf)
        | ((with_reducible refine Wr.quo ?_ ?_ ?_ ?_); omega; omega; omega; conv => whnf)
        | ((with_reducible refine Wr.inr ?_ ?_); (first | omega | (simp; omega)); conv => whnf)
        | ((with_reducible refine Wr.inu ?_ ?_); omega; conv => whnf)
        | (refine CallK.mk _ (hL) ?_; conv => whnf)
        | (exfalso; first | omega | contradiction))
      refine Again.au (k + 1) (by omega) (by omega) ?_
      rw [hs, ho]
      exact ⟨by (repeat' (first | exact True.intro | exact rfl | refine ⟨?_, ?_⟩ | (intro h; cases h; done) | (intro h; exact h) | exact map_snoc | (refine own_congr ?_; simp; done) | (refine int_congr ?_; (first | omega | (simp; omega))) | (simp; done))), by (repeat' (first | exact True.intro | exact rfl | refine ⟨?_, ?_⟩ | (intro h; cases h; done) | (intro h; exact h) | exact map_snoc | (refine own_congr ?_; simp; done) | (refine int_congr ?_; (first | omega | (simp; omega))) | (simp; done))), rfl⟩
    | true =>
      generalize p lo hi = pb at *
      cases pb with
      | false =>
        conv => whnf
        repeat' (first
          | ((with_reducible refine Split.of_true ?_); conv => whnf)
          | ((with_reducible refine Split.of_false ?_); conv => whnf)
          | ((with_reducible refine Split.neg ?_))
          | ((with_reducible refine Split.is_true ?_ ?_); decide; conv => whnf)
          | ((with_reducible refine Split.is_false ?_ ?_); decide; conv => whnf)
          | ((with_reducible refine Split.nez (fun _ => ?_) (fun _ => ?_)) <;> conv => whnf)
          | ((with_reducible refine Split.eqz (fun _ => ?_) (fun _ => ?_)) <;> conv => whnf)
          | ((with_reducible refine Split.and ?_))
          | ((with_reducible refine Split.or ?_))
          | ((with_reducible refine Split.streq (fun _ => ?_) (fun _ => ?_)) <;> conv => whnf)
          | ((with_reducible refine Split.dec (fun _ => ?_) (fun _ => ?_)) <;> conv => whnf)
          | ((with_reducible refine Split.mk (fun _ => ?_) (fun _ => ?_)) <;> conv => whnf)
          | ((with_reducible refine Need.mk ?_ ?_); (first | omega | rfl | decide | (refine ⟨?_, ?_⟩ <;> simp <;> omega) | (simp; omega)); conv => whnf)
          | ((with_reducible refine Wr.quo ?_ ?_ ?_ ?_); omega; omega; omega; conv => whnf)
          | ((with_reducible refine Wr.inr ?_ ?_); (first | omega | (simp; omega)); conv => whnf)
          | ((with_reducible refine Wr.inu ?_ ?_); omega; conv => whnf)
          | (refine CallK.mk _ (hL) ?_; conv => whnf)
          | (refine CallK.mk _ (hf) ?_; conv => whnf)
          | (exfalso; first | omega | contradiction))
        refine Again.au (k + 1) (by omega) (by omega) ?_
        rw [hs, ho]
        exact ⟨by (repeat' (first | exact True.intro | exact rfl | refine ⟨?_, ?_⟩ | (intro h; cases h; done) | (intro h; exact h) | exact map_snoc | (refine own_congr ?_; simp; done) | (refine int_congr ?_; (first | omega | (simp; omega))) | (simp; done))), by (repeat' (first | exact True.intro | exact rfl | refine ⟨?_, ?_⟩ | (intro h; cases h; done) | (intro h; exact h) | exact map_snoc | (refine own_congr ?_; simp; done) | (refine int_congr ?_; (first | omega | (simp; omega))) | (simp; done))), rfl⟩
      | true =>
        generalize opB l x p w.1 k = ob at *
        have hs := hs.trans (if_pos rfl)
        cases ob with
        | true =>
          obtain ⟨o, z, hz, hz2⟩ := hop rfl
          have hzl : ((winS l x p w.1 k).map wD).length = o.length + 1 := by rw [hz]; simp
          have hzg : (winS l x p w.1 k)[o.length]? = some z := by rw [hz]; simp
          conv => whnf
          repeat' (first
            | ((refine PickE.map o.length hzg (by omega) ?_); conv => whnf)
            | ((with_reducible refine Split.of_true ?_); conv => whnf)
            | ((with_reducible refine Split.of_false ?_); conv => whnf)
            | ((with_reducible refine Split.neg ?_))
            | ((with_reducible refine Split.is_true ?_ ?_); decide; conv => whnf)
            | ((with_reducible refine Split.is_false ?_ ?_); decide; conv => whnf)
            | ((with_reducible refine Split.nez (fun _ => ?_) (fun _ => ?_)) <;> conv => whnf)
            | ((with_reducible refine Split.eqz (fun _ => ?_) (fun _ => ?_)) <;> conv => whnf)
            | ((with_reducible refine Split.and ?_))
            | ((with_reducible refine Split.or ?_))
            | ((with_reducible refine Split.streq (fun _ => ?_) (fun _ => ?_)) <;> conv => whnf)
            | ((with_reducible refine Split.dec (fun _ => ?_) (fun _ => ?_)) <;> conv => whnf)
            | ((with_reducible refine Split.mk (fun _ => ?_) (fun _ => ?_)) <;> conv => whnf)
            | ((with_reducible refine Need.mk ?_ ?_); (first | omega | rfl | decide | (refine ⟨?_, ?_⟩ <;> simp <;> omega) | (simp; omega)); conv => whnf)
            | ((with_reducible refine Wr.quo ?_ ?_ ?_ ?_); omega; omega; omega; conv => whnf)
            | ((with_reducible refine Wr.inr ?_ ?_); (first | omega | (simp; omega)); conv => whnf)
            | ((with_reducible refine Wr.inu ?_ ?_); omega; conv => whnf)
            | (refine CallK.mk _ (hL) ?_; conv => whnf)
            | (refine CallK.mk _ (hf) ?_; conv => whnf)
            | (exfalso; first | omega | contradiction))
          refine Again.au (k + 1) (by omega) (by omega) ?_
          rw [hs, ho, hz, wAdd_snoc, if_pos (by omega)]
          exact ⟨by (repeat' (first | exact True.intro | exact rfl | refine ⟨?_, ?_⟩ | (refine own_congr ?_; simp; done) | (refine int_congr ?_; omega))), by (repeat' (first | exact True.intro | exact rfl | refine ⟨?_, ?_⟩ | (intro h; cases h; done) | (intro h; exact h) | (refine (set_last (by simp)).trans ?_; simp [wD]; done))), rfl⟩
        | false =>
          have hw : wAdd (winS l x p w.1 k) (w.1 + k) = winS l x p w.1 k ++ [(w.1 + k, w.1 + k)] := by
            rcases nil_or_snoc (winS l x p w.1 k) with e | ⟨o, z, e⟩
            · rw [e]; rfl
            · have := hsh rfl z (by rw [e]; simp)
              rw [e, wAdd_snoc, if_neg (by omega)]
          conv => whnf
          repeat' (first
            | ((with_reducible refine Split.of_true ?_); conv => whnf)
            | ((with_reducible refine Split.of_false ?_); conv => whnf)
            | ((with_reducible refine Split.neg ?_))
            | ((with_reducible refine Split.is_true ?_ ?_); decide; conv => whnf)
            | ((with_reducible refine Split.is_false ?_ ?_); decide; conv => whnf)
            | ((with_reducible refine Split.nez (fun _ => ?_) (fun _ => ?_)) <;> conv => whnf)
            | ((with_reducible refine Split.eqz (fun _ => ?_) (fun _ => ?_)) <;> conv => whnf)
            | ((with_reducible refine Split.and ?_))
            | ((with_reducible refine Split.or ?_))
            | ((with_reducible refine Split.streq (fun _ => ?_) (fun _ => ?_)) <;> conv => whnf)
            | ((with_reducible refine Split.dec (fun _ => ?_) (fun _ => ?_)) <;> conv => whnf)
            | ((with_reducible refine Split.mk (fun _ => ?_) (fun _ => ?_)) <;> conv => whnf)
            | ((with_reducible refine Need.mk ?_ ?_); (first | omega | rfl | decide | (refine ⟨?_, ?_⟩ <;> simp <;> omega) | (simp; omega)); conv => whnf)
            | ((with_reducible refine Wr.quo ?_ ?_ ?_ ?_); omega; omega; omega; conv => whnf)
            | ((with_reducible refine Wr.inr ?_ ?_); (first | omega | (simp; omega)); conv => whnf)
            | ((with_reducible refine Wr.inu ?_ ?_); omega; conv => whnf)
            | (refine CallK.mk _ (hL) ?_; conv => whnf)
            | (refine CallK.mk _ (hf) ?_; conv => whnf)
            | (exfalso; first | omega | contradiction))
          refine Again.au (k + 1) (by omega) (by omega) ?_
          rw [hs, ho, hw]
          exact ⟨by (repeat' (first | exact True.intro | exact rfl | refine ⟨?_, ?_⟩ | (intro h; cases h; done) | (intro h; exact h) | exact map_snoc | (refine own_congr ?_; simp; done) | (refine int_congr ?_; (first | omega | (simp; omega))) | (simp; done) | (refine own_congr ?_; simp [wD]; done) | (refine int_congr ?_; simp [wD]; done) | (simp [wD]; done) | (simp [D.cells, wD]; done))), by (repeat' (first | exact True.intro | exact rfl | refine ⟨?_, ?_⟩ | (intro h; cases h; done) | (intro h; exact h) | exact map_snoc | (refine own_congr ?_; simp; done) | (refine int_congr ?_; (first | omega | (simp; omega))) | (simp; done) | (refine own_congr ?_; simp [wD]; done) | (refine int_congr ?_; simp [wD]; done) | (simp [wD]; done) | (simp [D.cells, wD]; done))), rfl⟩
  · have e : k = mins w := by omega
    rw [← e]
    rfl
theorem ev_Sure1 (lo hi lv : Int) : Ev Try.prog 90 [ivD lo hi, .ref [.int .i64 lv] 0] (.bool (decide (lo ≥ lv))) := by
  refine ev_of_awp tysOk mixed (fn := Try.f90) Try.func90 rfl rfl rfl ?_
  conv => whnf
  repeat' (first
    | ((with_reducible refine Split.of_true ?_); conv => whnf)
    | ((with_reducible refine Split.of_false ?_); conv => whnf)
    | ((with_reducible refine Split.neg ?_))
    | ((with_reducible refine Split.is_true ?_ ?_); decide; conv => whnf)
    | ((with_reducible refine Split.is_false ?_ ?_); decide; conv => whnf)
    | ((with_reducible refine Split.nez (fun _ => ?_) (fun _ => ?_)) <;> conv => whnf)
    | ((with_reducible refine Split.eqz (fun _ => ?_) (fun _ => ?_)) <;> conv => whnf)
    | ((with_reducible refine Split.and ?_))
    | ((with_reducible refine Split.or ?_))
    | ((with_reducible refine Split.streq (fun _ => ?_) (fun _ => ?_)) <;> conv => whnf)
    | ((with_reducible refine Split.dec (fun _ => ?_) (fun _ => ?_)) <;> conv => whnf)
    | ((with_reducible refine Split.mk (fun _ => ?_) (fun _ => ?_)) <;> conv => whnf)
    | ((with_reducible refine Need.mk ?_ ?_); (first | omega | rfl | decide | (refine ⟨?_, ?_⟩ <;> simp <;> omega) | (simp; omega)); conv => whnf)
    | ((with_reducible refine Wr.quo ?_ ?_ ?_ ?_); omega; omega; omega; conv => whnf)
    | ((with_reducible refine Wr.inr ?_ ?_); (first | omega | (simp; omega)); conv => whnf)
    | ((with_reducible refine Wr.inu ?_ ?_); omega; conv => whnf)
    | (exfalso; first | omega | contradiction))
  rfl
theorem ev_Possible1 (lo hi lv : Int) : Ev Try.prog 91 [ivD lo hi, .ref [.int .i64 lv] 0] (.bool (decide (hi ≥ lv))) := by
  refine ev_of_awp tysOk mixed (fn := Try.f91) Try.func91 rfl rfl rfl ?_
  conv => whnf
  repeat' (first
    | ((with_reducible refine Split.of_true ?_); conv => whnf)
    | ((with_reducible refine Split.of_false ?_); conv => whnf)
    | ((with_reducible refine Split.neg ?_))
    | ((with_reducible refine Split.is_true ?_ ?_); decide; conv => whnf)
    | ((with_reducible refine Split.is_false ?_ ?_); decide; conv => whnf)
    | ((with_reducible refine Split.nez (fun _ => ?_) (fun _ => ?_)) <;> conv => whnf)
    | ((with_reducible refine Split.eqz (fun _ => ?_) (fun _ => ?_)) <;> conv => whnf)
    | ((with_reducible refine Split.and ?_))
    | ((with_reducible refine Split.or ?_))
    | ((with_reducible refine Split.streq (fun _ => ?_) (fun _ => ?_)) <;> conv => whnf)
    | ((with_reducible refine Split.dec (fun _ => ?_) (fun _ => ?_)) <;> conv => whnf)
    | ((with_reducible refine Split.mk (fun _ => ?_) (fun _ => ?_)) <;> conv => whnf)
    | ((with_reducible refine Need.mk ?_ ?_); (first | omega | rfl | decide | (refine ⟨?_, ?_⟩ <;> simp <;> omega) | (simp; omega)); conv => whnf)
    | ((with_reducible refine Wr.quo ?_ ?_ ?_ ?_); omega; omega; omega; conv => whnf)
    | ((with_reducible refine Wr.inr ?_ ?_); (first | omega | (simp; omega)); conv => whnf)
    | ((with_reducible refine Wr.inu ?_ ?_); omega; conv => whnf)
    | (exfalso; first | omega | contradiction))
  rfl
def sureP (lv : Int) (lo _hi : Int) : Bool := decide (lo ≥ lv)
def possP (lv : Int) (_lo hi : Int) : Bool := decide (hi ≥ lv)
def srS (l : List Ga) (x lv : Int) (w : Int × Int) : List (Int × Int) := if viewErr l x w = 0 then winS l x (sureP lv) w.1 (mins w) else []
def psS (l : List Ga) (x lv : Int) (w : Int × Int) : List (Int × Int) := if viewErr l x w = 0 then winS l x (possP lv) w.1 (mins w) else []
theorem ev_Sure (l : List Ga) (x lv : Int) (w : Int × Int) : Ev Try.prog 44 [.sl 4 (l.map gD), .int .i64 x, .int .i64 lv, wD w] (.tup [.sl 2 ((srS l x lv w).map wD), .int .i64 (viewErr l x w)]) := by
  have hv := ev_view l x w
  by_cases h : viewErr l x w = 0
  · have hw := ev_win l x w 90 [.ref [.int .i64 lv] 0] (sureP lv) h (fun lo hi => ev_Sure1 lo hi lv)
    rw [h] at hv ⊢
    rw [srS, if_pos h]
    refine ev_of_awp tysOk mixed (fn := Try.f44) Try.func44 rfl rfl rfl ?_
    conv => whnf
    repeat' (first
      | ((with_reducible refine Split.of_true ?_); conv => whnf)
      | ((with_reducible refine Split.of_false ?_); conv => whnf)
      | ((with_reducible refine Split.neg ?_))
      | ((with_reducible refine Split.is_true ?_ ?_); decide; conv => whnf)
      | ((with_reducible refine Split.is_false ?_ ?_); decide; conv => whnf)
      | ((with_reducible refine Split.nez (fun _ => ?_) (fun _ => ?_)) <;> conv => whnf)
      | ((with_reducible refine Split.eqz (fun _ => ?_) (fun _ => ?_)) <;> conv => whnf)
      | ((with_reducible refine Split.and ?_))
      | ((with_reducible refine Split.or ?_))
      | ((with_reducible refine Split.streq (fun _ => ?_) (fun _ => ?_)) <;> conv => whnf)
      | ((with_reducible refine Split.dec (fun _ => ?_) (fun _ => ?_)) <;> conv => whnf)
      | ((with_reducible refine Split.mk (fun _ => ?_) (fun _ => ?_)) <;> conv => whnf)
      | ((with_reducible refine Need.mk ?_ ?_); (first | omega | rfl | decide | (refine ⟨?_, ?_⟩ <;> simp <;> omega) | (simp; omega)); conv => whnf)
      | ((with_reducible refine Wr.quo ?_ ?_ ?_ ?_); omega; omega; omega; conv => whnf)
      | ((with_reducible refine Wr.inr ?_ ?_); (first | omega | (simp; omega)); conv => whnf)
      | ((with_reducible refine Wr.inu ?_ ?_); omega; conv => whnf)
      | (refine CallK.mk _ (hv) ?_; conv => whnf)
      | (refine CallK.mk _ (hw) ?_; conv => whnf)
      | (exfalso; first | omega | contradiction))
    rfl
  · rw [srS, if_neg h]
    refine ev_of_awp tysOk mixed (fn := Try.f44) Try.func44 rfl rfl rfl ?_
    conv => whnf
    repeat' (first
      | ((with_reducible refine Split.of_true ?_); conv => whnf)
      | ((with_reducible refine Split.of_false ?_); conv => whnf)
      | ((with_reducible refine Split.neg ?_))
      | ((with_reducible refine Split.is_true ?_ ?_); decide; conv => whnf)
      | ((with_reducible refine Split.is_false ?_ ?_); decide; conv => whnf)
      | ((with_reducible refine Split.nez (fun _ => ?_) (fun _ => ?_)) <;> conv => whnf)
      | ((with_reducible refine Split.eqz (fun _ => ?_) (fun _ => ?_)) <;> conv => whnf)
      | ((with_reducible refine Split.and ?_))
      | ((with_reducible refine Split.or ?_))
      | ((with_reducible refine Split.streq (fun _ => ?_) (fun _ => ?_)) <;> conv => whnf)
      | ((with_reducible refine Split.dec (fun _ => ?_) (fun _ => ?_)) <;> conv => whnf)
      | ((with_reducible refine Split.mk (fun _ => ?_) (fun _ => ?_)) <;> conv => whnf)
      | ((with_reducible refine Need.mk ?_ ?_); (first | omega | rfl | decide | (refine ⟨?_, ?_⟩ <;> simp <;> omega) | (simp; omega)); conv => whnf)
      | ((with_reducible refine Wr.quo ?_ ?_ ?_ ?_); omega; omega; omega; conv => whnf)
      | ((with_reducible refine Wr.inr ?_ ?_); (first | omega | (simp; omega)); conv => whnf)
      | ((with_reducible refine Wr.inu ?_ ?_); omega; conv => whnf)
      | (refine CallK.mk _ (hv) ?_; conv => whnf)
      | (exfalso; first | omega | contradiction))
    rfl
theorem ev_Possible (l : List Ga) (x lv : Int) (w : Int × Int) : Ev Try.prog 45 [.sl 4 (l.map gD), .int .i64 x, .int .i64 lv, wD w] (.tup [.sl 2 ((psS l x lv w).map wD), .int .i64 (viewErr l x w)]) := by
  have hv := ev_view l x w
  by_cases h : viewErr l x w = 0
  · have hw := ev_win l x w 91 [.ref [.int .i64 lv] 0] (possP lv) h (fun lo hi => ev_Possible1 lo hi lv)
    rw [h] at hv ⊢
    rw [psS, if_pos h]
    refine ev_of_awp tysOk mixed (fn := Try.f45) Try.func45 rfl rfl rfl ?_
    conv => whnf
    repeat' (first
      | ((with_reducible refine Split.of_true ?_); conv => whnf)
      | ((with_reducible refine Split.of_false ?_); conv => whnf)
      | ((with_reducible refine Split.neg ?_))
      | ((with_reducible refine Split.is_true ?_ ?_); decide; conv => whnf)
      | ((with_reducible refine Split.is_false ?_ ?_); decide; conv => whnf)
      | ((with_reducible refine Split.nez (fun _ => ?_) (fun _ => ?_)) <;> conv => whnf)
      | ((with_reducible refine Split.eqz (fun _ => ?_) (fun _ => ?_)) <;> conv => whnf)
      | ((with_reducible refine Split.and ?_))
      | ((with_reducible refine Split.or ?_))
      | ((with_reducible refine Split.streq (fun _ => ?_) (fun _ => ?_)) <;> conv => whnf)
      | ((with_reducible refine Split.dec (fun _ => ?_) (fun _ => ?_)) <;> conv => whnf)
      | ((with_reducible refine Split.mk (fun _ => ?_) (fun _ => ?_)) <;> conv => whnf)
      | ((with_reducible refine Need.mk ?_ ?_); (first | omega | rfl | decide | (refine ⟨?_, ?_⟩ <;> simp <;> omega) | (simp; omega)); conv => whnf)
      | ((with_reducible refine Wr.quo ?_ ?_ ?_ ?_); omega; omega; omega; conv => whnf)
      | ((with_reducible refine Wr.inr ?_ ?_); (first | omega | (simp; omega)); conv => whnf)
      | ((with_reducible refine Wr.inu ?_ ?_); omega; conv => whnf)
      | (refine CallK.mk _ (hv) ?_; conv => whnf)
      | (refine CallK.mk _ (hw) ?_; conv => whnf)
      | (exfalso; first | omega | contradiction))
    rfl
  · rw [psS, if_neg h]
    refine ev_of_awp tysOk mixed (fn := Try.f45) Try.func45 rfl rfl rfl ?_
    conv => whnf
    repeat' (first
      | ((with_reducible refine Split.of_true ?_); conv => whnf)
      | ((with_reducible refine Split.of_false ?_); conv => whnf)
      | ((with_reducible refine Split.neg ?_))
      | ((with_reducible refine Split.is_true ?_ ?_); decide; conv => whnf)
      | ((with_reducible refine Split.is_false ?_ ?_); decide; conv => whnf)
      | ((with_reducible refine Split.nez (fun _ => ?_) (fun _ => ?_)) <;> conv => whnf)
      | ((with_reducible refine Split.eqz (fun _ => ?_) (fun _ => ?_)) <;> conv => whnf)
      | ((with_reducible refine Split.and ?_))
      | ((with_reducible refine Split.or ?_))
      | ((with_reducible refine Split.streq (fun _ => ?_) (fun _ => ?_)) <;> conv => whnf)
      | ((with_reducible refine Split.dec (fun _ => ?_) (fun _ => ?_)) <;> conv => whnf)
      | ((with_reducible refine Split.mk (fun _ => ?_) (fun _ => ?_)) <;> conv => whnf)
      | ((with_reducible refine Need.mk ?_ ?_); (first | omega | rfl | decide | (refine ⟨?_, ?_⟩ <;> simp <;> omega) | (simp; omega)); conv => whnf)
      | ((with_reducible refine Wr.quo ?_ ?_ ?_ ?_); omega; omega; omega; conv => whnf)
      | ((with_reducible refine Wr.inr ?_ ?_); (first | omega | (simp; omega)); conv => whnf)
      | ((with_reducible refine Wr.inu ?_ ?_); omega; conv => whnf)
      | (refine CallK.mk _ (hv) ?_; conv => whnf)
      | (exfalso; first | omega | contradiction))
    rfl
end Go.Proofs.Try
