import Derived.Test.YtcgfcbmlmfbknaaTwP
namespace Go.Proofs.Try
open Go Go.Vm
set_option maxRecDepth 20000
set_option maxHeartbeats 2000000
theorem win_in (l : List Ga) (x : Int) (p : Int → Int → Bool) (a : Int) : ∀ k, ∀ z ∈ winS l x p a k, a ≤ z.1 ∧ z.1 ≤ z.2 ∧ z.2 < a + k
  | 0, z, h => by cases h
  | k + 1, z, h => by
    have ih := win_in l x p a k
    rw [winS] at h
    split at h
    · rcases nil_or_snoc (winS l x p a k) with e | ⟨o, y, e⟩
      · rw [e] at h; simp [wAdd] at h; subst h; dsimp only; omega
      · rw [e] at ih h
        rw [wAdd_snoc] at h
        split at h
        · rcases List.mem_append.1 h with h | h
          · have := ih z (by simp [h]); omega
          · have := ih y (by simp); rw [List.mem_singleton.1 h]; dsimp only; omega
        · rcases List.mem_append.1 h with h | h
          · have := ih z h; omega
          · rw [List.mem_singleton.1 h]; dsimp only; omega
    · have := ih z h; omega
theorem sr_in {l : List Ga} {x lv : Int} {w : Int × Int} : ∀ z ∈ srS l x lv w, 0 ≤ z.1 ∧ z.1 ≤ z.2 ∧ z.2 ≤ 1000000 := by
  intro z hz
  unfold srS at hz
  split at hz
  · rename_i h
    obtain ⟨-, -, h1, h2, h3, h4⟩ := view_ok h
    have := win_in _ _ _ _ _ z hz
    unfold mins at this
    omega
  · cases hz
theorem sr_len {l : List Ga} {x lv : Int} {w : Int × Int} : (srS l x lv w).length ≤ 3001 := by
  unfold srS
  split
  · rename_i h
    obtain ⟨-, -, h1, h2, h3, h4⟩ := view_ok h
    have := win_len l x (sureP lv) w.1 (mins w)
    unfold mins at *
    omega
  · simp
theorem ps_len {l : List Ga} {x lv : Int} {w : Int × Int} : (psS l x lv w).length ≤ 3001 := by
  unfold psS
  split
  · rename_i h
    obtain ⟨-, -, h1, h2, h3, h4⟩ := view_ok h
    have := win_len l x (possP lv) w.1 (mins w)
    unfold mins at *
    omega
  · simp
def longF : Int × Int → List (Int × Int) → Int × Int
  | b, [] => b
  | b, v :: r => longF (if v.2 - v.1 > b.2 - b.1 then v else b) r
def longS : List (Int × Int) → Int × Int
  | [] => (0, 0)
  | b :: r => longF b r
theorem longF_snoc (v : Int × Int) : ∀ (r : List (Int × Int)) (b : Int × Int), longF b (r ++ [v]) = if v.2 - v.1 > (longF b r).2 - (longF b r).1 then v else longF b r
  | [], _ => rfl
  | _ :: r, _ => longF_snoc v r _
theorem longF_in {P : Int × Int → Prop} : ∀ (r : List (Int × Int)) (b : Int × Int), P b → (∀ z ∈ r, P z) → P (longF b r)
  | [], _, h, _ => h
  | u :: r, _, h, hr => by
    refine longF_in r _ ?_ fun z hz => hr z (by simp [hz])
    split
    · exact hr u (by simp)
    · exact h
theorem ev_First (l : List Ga) (x lv : Int) (w : Int × Int) : Ev Try.prog 47 [.sl 4 (l.map gD), .int .i64 x, .int .i64 lv, wD w] (.tup [.int .i64 (longS ((srS l x lv w).take 1)).1, .int .i64 (if viewErr l x w ≠ 0 then viewErr l x w else if srS l x lv w = [] then 11 else 0)]) := by
  have hS := ev_Sure l x lv w
  by_cases h : viewErr l x w = 0
  · rw [if_neg (by simpa using h)]
    rw [h] at hS
    generalize srS l x lv w = s at *
    have hsl : (s.map wD).length = s.length := List.length_map _
    cases s with
    | nil =>
      refine ev_of_awp tysOk mixed (fn := Try.f47) Try.func47 rfl rfl rfl ?_
      conv => whnf
      repeat' (first
        | ((with_reducible refine Split.of_true ?_); conv => whnf)
        | ((with_reducible refine Split.of_false ?_); conv => whnf)
        | ((with_reducible refine Split.neg ?_))
        | ((with_reducible refine Split.is_true ?_ ?_); decide; conv => whnf)
        | ((with_reducible refine Split.is_false ?_ ?_); decide; conv => whnf)
        | ((with_reducible refine Split.nez (fun _ => ?_) (fun _ => ?_)) <;> conv => whnf)
        | ((with_reducible refine Split.eqz (fun _ => ?_) (fun _ => ?_)) <;> conv => whnf)
        | ((with_reducible refine Split.and ?_))
        | ((with_reducible refine Split.or ?_))
        | ((with_reducible refine Split.streq (fun _ => ?_) (fun _ => ?_)) <;> conv => whnf)
        | ((with_reducible refine Split.dec (fun _ => ?_) (fun _ => ?_)) <;> conv => whnf)
        | ((with_reducible refine Split.mk (fun _ => ?_) (fun _ => ?_)) <;> conv => whnf)
        | ((with_reducible refine Need.mk ?_ ?_); (first | omega | rfl | decide | (refine ⟨?_, ?_⟩ <;> simp <;> omega) | (simp; omega)); conv => whnf)
        | ((with_reducible refine Wr.quo ?_ ?_ ?_ ?_); omega; omega; omega; conv => whnf)
        | ((with_reducible refine Wr.inr ?_ ?_); (first | omega | (simp; omega)); conv => whnf)
        | ((with_reducible refine Wr.inu ?_ ?_); omega; conv => whnf)
        | (refine CallK.mk _ (hS) ?_; conv => whnf)
        | (exfalso; first | omega | contradiction))
      rfl
    | cons z r =>
      refine ev_of_awp tysOk mixed (fn := Try.f47) Try.func47 rfl rfl rfl ?_
      conv => whnf
      repeat' (first
        | ((with_reducible refine Split.of_true ?_); conv => whnf)
        | ((with_reducible refine Split.of_false ?_); conv => whnf)
        | ((with_reducible refine Split.neg ?_))
        | ((with_reducible refine Split.is_true ?_ ?_); decide; conv => whnf)
        | ((with_reducible refine Split.is_false ?_ ?_); decide; conv => whnf)
        | ((with_reducible refine Split.nez (fun _ => ?_) (fun _ => ?_)) <;> conv => whnf)
        | ((with_reducible refine Split.eqz (fun _ => ?_) (fun _ => ?_)) <;> conv => whnf)
        | ((with_reducible refine Split.and ?_))
        | ((with_reducible refine Split.or ?_))
        | ((with_reducible refine Split.streq (fun _ => ?_) (fun _ => ?_)) <;> conv => whnf)
        | ((with_reducible refine Split.dec (fun _ => ?_) (fun _ => ?_)) <;> conv => whnf)
        | ((with_reducible refine Split.mk (fun _ => ?_) (fun _ => ?_)) <;> conv => whnf)
        | ((with_reducible refine Need.mk ?_ ?_); (first | omega | rfl | decide | (refine ⟨?_, ?_⟩ <;> simp <;> omega) | (simp; omega)); conv => whnf)
        | ((with_reducible refine Wr.quo ?_ ?_ ?_ ?_); omega; omega; omega; conv => whnf)
        | ((with_reducible refine Wr.inr ?_ ?_); (first | omega | (simp; omega)); conv => whnf)
        | ((with_reducible refine Wr.inu ?_ ?_); omega; conv => whnf)
        | (refine CallK.mk _ (hS) ?_; conv => whnf)
        | (exfalso; first | omega | contradiction))
      · exfalso; simp at *; omega
      · refine PickE.map 0 (m := z) rfl (by omega) ?_
        conv => whnf
        repeat' (first
          | ((with_reducible refine Split.of_true ?_); conv => whnf)
          | ((with_reducible refine Split.of_false ?_); conv => whnf)
          | ((with_reducible refine Split.neg ?_))
          | ((with_reducible refine Split.is_true ?_ ?_); decide; conv => whnf)
          | ((with_reducible refine Split.is_false ?_ ?_); decide; conv => whnf)
          | ((with_reducible refine Split.nez (fun _ => ?_) (fun _ => ?_)) <;> conv => whnf)
          | ((with_reducible refine Split.eqz (fun _ => ?_) (fun _ => ?_)) <;> conv => whnf)
          | ((with_reducible refine Split.and ?_))
          | ((with_reducible refine Split.or ?_))
          | ((with_reducible refine Split.streq (fun _ => ?_) (fun _ => ?_)) <;> conv => whnf)
          | ((with_reducible refine Split.dec (fun _ => ?_) (fun _ => ?_)) <;> conv => whnf)
          | ((with_reducible refine Split.mk (fun _ => ?_) (fun _ => ?_)) <;> conv => whnf)
          | ((with_reducible refine Need.mk ?_ ?_); (first | omega | rfl | decide | (refine ⟨?_, ?_⟩ <;> simp <;> omega) | (simp; omega)); conv => whnf)
          | ((with_reducible refine Wr.quo ?_ ?_ ?_ ?_); omega; omega; omega; conv => whnf)
          | ((with_reducible refine Wr.inr ?_ ?_); (first | omega | (simp; omega)); conv => whnf)
          | ((with_reducible refine Wr.inu ?_ ?_); omega; conv => whnf)
          | (exfalso; first | omega | contradiction))
        rfl
  · rw [if_pos h, show srS l x lv w = [] by rw [srS, if_neg h]]
    refine ev_of_awp tysOk mixed (fn := Try.f47) Try.func47 rfl rfl rfl ?_
    conv => whnf
    repeat' (first
      | ((with_reducible refine Split.of_true ?_); conv => whnf)
      | ((with_reducible refine Split.of_false ?_); conv => whnf)
      | ((with_reducible refine Split.neg ?_))
      | ((with_reducible refine Split.is_true ?_ ?_); decide; conv => whnf)
      | ((with_reducible refine Split.is_false ?_ ?_); decide; conv => whnf)
      | ((with_reducible refine Split.nez (fun _ => ?_) (fun _ => ?_)) <;> conv => whnf)
      | ((with_reducible refine Split.eqz (fun _ => ?_) (fun _ => ?_)) <;> conv => whnf)
      | ((with_reducible refine Split.and ?_))
      | ((with_reducible refine Split.or ?_))
      | ((with_reducible refine Split.streq (fun _ => ?_) (fun _ => ?_)) <;> conv => whnf)
      | ((with_reducible refine Split.dec (fun _ => ?_) (fun _ => ?_)) <;> conv => whnf)
      | ((with_reducible refine Split.mk (fun _ => ?_) (fun _ => ?_)) <;> conv => whnf)
      | ((with_reducible refine Need.mk ?_ ?_); (first | omega | rfl | decide | (refine ⟨?_, ?_⟩ <;> simp <;> omega) | (simp; omega)); conv => whnf)
      | ((with_reducible refine Wr.quo ?_ ?_ ?_ ?_); omega; omega; omega; conv => whnf)
      | ((with_reducible refine Wr.inr ?_ ?_); (first | omega | (simp; omega)); conv => whnf)
      | ((with_reducible refine Wr.inu ?_ ?_); omega; conv => whnf)
      | (refine CallK.mk _ (hS) ?_; conv => whnf)
      | (exfalso; first | omega | contradiction))
    rfl
theorem ev_Longest (l : List Ga) (x lv : Int) (w : Int × Int) : Ev Try.prog 48 [.sl 4 (l.map gD), .int .i64 x, .int .i64 lv, wD w] (.tup [wD (longS (srS l x lv w)), .int .i64 (if viewErr l x w ≠ 0 then viewErr l x w else if srS l x lv w = [] then 11 else 0)]) := by
  have hS := ev_Sure l x lv w
  by_cases h : viewErr l x w = 0
  · rw [if_neg (by simpa using h)]
    have hin := @sr_in l x lv w
    have hln := @sr_len l x lv w
    rw [h] at hS
    generalize srS l x lv w = s at *
    have hsl : (s.map wD).length = s.length := List.length_map _
    cases s with
    | nil =>
      refine ev_of_awp tysOk mixed (fn := Try.f48) Try.func48 rfl rfl rfl ?_
      conv => whnf
      repeat' (first
        | ((with_reducible refine Split.of_true ?_); conv => whnf)
        | ((with_reducible refine Split.of_false ?_); conv => whnf)
        | ((with_reducible refine Split.neg ?_))
        | ((with_reducible refine Split.is_true ?_ ?_); decide; conv => whnf)
        | ((with_reducible refine Split.is_false ?_ ?_); decide; conv => whnf)
        | ((with_reducible refine Split.nez (fun _ => ?_) (fun _ => ?_)) <;> conv => whnf)
        | ((with_reducible refine Split.eqz (fun _ => ?_) (fun _ => ?_)) <;> conv => whnf)
        | ((with_reducible refine Split.and ?_))
        | ((with_reducible refine Split.or ?_))
        | ((with_reducible refine Split.streq (fun _ => ?_) (fun _ => ?_)) <;> conv => whnf)
        | ((with_reducible refine Split.dec (fun _ => ?_) (fun _ => ?_)) <;> conv => whnf)
        | ((with_reducible refine Split.mk (fun _ => ?_) (fun _ => ?_)) <;> conv => whnf)
        | ((with_reducible refine Need.mk ?_ ?_); (first | omega | rfl | decide | (refine ⟨?_, ?_⟩ <;> simp <;> omega) | (simp; omega)); conv => whnf)
        | ((with_reducible refine Wr.quo ?_ ?_ ?_ ?_); omega; omega; omega; conv => whnf)
        | ((with_reducible refine Wr.inr ?_ ?_); (first | omega | (simp; omega)); conv => whnf)
        | ((with_reducible refine Wr.inu ?_ ?_); omega; conv => whnf)
        | (refine CallK.mk _ (hS) ?_; conv => whnf)
        | (exfalso; first | omega | contradiction))
      rfl
    | cons z r =>
      refine ev_of_awp tysOk mixed (fn := Try.f48) Try.func48 rfl rfl rfl ?_
      conv => whnf
      repeat' (first
        | ((with_reducible refine Split.of_true ?_); conv => whnf)
        | ((with_reducible refine Split.of_false ?_); conv => whnf)
        | ((with_reducible refine Split.neg ?_))
        | ((with_reducible refine Split.is_true ?_ ?_); decide; conv => whnf)
        | ((with_reducible refine Split.is_false ?_ ?_); decide; conv => whnf)
        | ((with_reducible refine Split.nez (fun _ => ?_) (fun _ => ?_)) <;> conv => whnf)
        | ((with_reducible refine Split.eqz (fun _ => ?_) (fun _ => ?_)) <;> conv => whnf)
        | ((with_reducible refine Split.and ?_))
        | ((with_reducible refine Split.or ?_))
        | ((with_reducible refine Split.streq (fun _ => ?_) (fun _ => ?_)) <;> conv => whnf)
        | ((with_reducible refine Split.dec (fun _ => ?_) (fun _ => ?_)) <;> conv => whnf)
        | ((with_reducible refine Split.mk (fun _ => ?_) (fun _ => ?_)) <;> conv => whnf)
        | ((with_reducible refine Need.mk ?_ ?_); (first | omega | rfl | decide | (refine ⟨?_, ?_⟩ <;> simp <;> omega) | (simp; omega)); conv => whnf)
        | ((with_reducible refine Wr.quo ?_ ?_ ?_ ?_); omega; omega; omega; conv => whnf)
        | ((with_reducible refine Wr.inr ?_ ?_); (first | omega | (simp; omega)); conv => whnf)
        | ((with_reducible refine Wr.inu ?_ ?_); omega; conv => whnf)
        | (refine CallK.mk _ (hS) ?_; conv => whnf)
        | (exfalso; first | omega | contradiction))
      · exfalso; simp at *; omega
      · refine PickE.map 0 (m := z) rfl (by omega) ?_
        conv => whnf
        repeat' (first
          | ((with_reducible refine Split.of_true ?_); conv => whnf)
          | ((with_reducible refine Split.of_false ?_); conv => whnf)
          | ((with_reducible refine Split.neg ?_))
          | ((with_reducible refine Split.is_true ?_ ?_); decide; conv => whnf)
          | ((with_reducible refine Split.is_false ?_ ?_); decide; conv => whnf)
          | ((with_reducible refine Split.nez (fun _ => ?_) (fun _ => ?_)) <;> conv => whnf)
          | ((with_reducible refine Split.eqz (fun _ => ?_) (fun _ => ?_)) <;> conv => whnf)
          | ((with_reducible refine Split.and ?_))
          | ((with_reducible refine Split.or ?_))
          | ((with_reducible refine Split.streq (fun _ => ?_) (fun _ => ?_)) <;> conv => whnf)
          | ((with_reducible refine Split.dec (fun _ => ?_) (fun _ => ?_)) <;> conv => whnf)
          | ((with_reducible refine Split.mk (fun _ => ?_) (fun _ => ?_)) <;> conv => whnf)
          | ((with_reducible refine Need.mk ?_ ?_); (first | omega | rfl | decide | (refine ⟨?_, ?_⟩ <;> simp <;> omega) | (simp; omega)); conv => whnf)
          | ((with_reducible refine Wr.quo ?_ ?_ ?_ ?_); omega; omega; omega; conv => whnf)
          | ((with_reducible refine Wr.inr ?_ ?_); (first | omega | (simp; omega)); conv => whnf)
          | ((with_reducible refine Wr.inu ?_ ?_); omega; conv => whnf)
          | (exfalso; first | omega | contradiction))
        have e : List.drop (Int.toNat 1) (List.take (((z :: r).map wD).length : Int).toNat ((z :: r).map wD)) = r.map wD := by simp [List.take_of_length_le]
        rw [e]
        have hrl : (r.map wD).length = r.length := List.length_map _
        have hrn : r.length ≤ 3000 := by simp at hln; omega
        refine LoopK.o2 (fun k : Nat => k ≤ r.length) (fun k => [(37, .d (.int .i64 k))]) (fun k => [(12, .var [.d (.int .i64 (longF z (r.take k)).1), .d (.int .i64 (longF z (r.take k)).2)] false)]) (fun k => r.length - k) 0 (by simp) ⟨by (repeat' (first | exact True.intro | exact rfl | refine ⟨?_, ?_⟩ | (intro h; cases h; done) | (intro h; exact h) | exact map_snoc | (refine own_congr ?_; simp; done) | (refine int_congr ?_; (first | omega | (simp; omega))) | (simp; done))), by (repeat' (first | exact True.intro | exact rfl | refine ⟨?_, ?_⟩ | (intro h; cases h; done) | (intro h; exact h) | exact map_snoc | (refine own_congr ?_; simp; done) | (refine int_congr ?_; (first | omega | (simp; omega))) | (simp; done))), rfl⟩ ?_
        intro k hk
        have hb := longF_in (P := fun z => 0 ≤ z.1 ∧ z.1 ≤ z.2 ∧ z.2 ≤ 1000000) (r.take k) z (hin z (by simp)) (fun y hy => hin y (by simp [List.mem_of_mem_take hy]))
        have hn : (k : Int) < r.length → ∃ m, r[k]? = some m := fun h => some_of_lt (by omega)
        conv => whnf
        repeat' (first
          | ((with_reducible refine Split.of_true ?_); conv => whnf)
          | ((with_reducible refine Split.of_false ?_); conv => whnf)
          | ((with_reducible refine Split.neg ?_))
          | ((with_reducible refine Split.is_true ?_ ?_); decide; conv => whnf)
          | ((with_reducible refine Split.is_false ?_ ?_); decide; conv => whnf)
          | ((with_reducible refine Split.nez (fun _ => ?_) (fun _ => ?_)) <;> conv => whnf)
          | ((with_reducible refine Split.eqz (fun _ => ?_) (fun _ => ?_)) <;> conv => whnf)
          | ((with_reducible refine Split.and ?_))
          | ((with_reducible refine Split.or ?_))
          | ((with_reducible refine Split.streq (fun _ => ?_) (fun _ => ?_)) <;> conv => whnf)
          | ((with_reducible refine Split.dec (fun _ => ?_) (fun _ => ?_)) <;> conv => whnf)
          | ((with_reducible refine Split.mk (fun _ => ?_) (fun _ => ?_)) <;> conv => whnf)
          | ((with_reducible refine Need.mk ?_ ?_); (first | omega | rfl | decide | (refine ⟨?_, ?_⟩ <;> simp <;> omega) | (simp; omega)); conv => whnf)
          | ((with_reducible refine Wr.quo ?_ ?_ ?_ ?_); omega; omega; omega; conv => whnf)
          | ((with_reducible refine Wr.inr ?_ ?_); (first | omega | (simp; omega)); conv => whnf)
          | ((with_reducible refine Wr.inu ?_ ?_); omega; conv => whnf)
          | (exfalso; first | omega | contradiction))
        · obtain ⟨v, hv⟩ := hn (by omega)
          have hvb := hin v (by simp [List.mem_of_getElem? hv])
          have hs : longF z (r.take (k + 1)) = if v.2 - v.1 > (longF z (r.take k)).2 - (longF z (r.take k)).1 then v else longF z (r.take k) := by rw [take_snoc hv, longF_snoc]
          generalize longF z (r.take k) = y at *
          obtain ⟨y1, y2⟩ := y
          dsimp only at hb hs
          conv => whnf
          repeat' (first
            | ((refine PickE.map k hv (by omega) ?_); conv => whnf)
            | ((with_reducible refine Split.of_true ?_); conv => whnf)
            | ((with_reducible refine Split.of_false ?_); conv => whnf)
            | ((with_reducible refine Split.neg ?_))
            | ((with_reducible refine Split.is_true ?_ ?_); decide; conv => whnf)
            | ((with_reducible refine Split.is_false ?_ ?_); decide; conv => whnf)
            | ((with_reducible refine Split.nez (fun _ => ?_) (fun _ => ?_)) <;> conv => whnf)
            | ((with_reducible refine Split.eqz (fun _ => ?_) (fun _ => ?_)) <;> conv => whnf)
            | ((with_reducible refine Split.and ?_))
            | ((with_reducible refine Split.or ?_))
            | ((with_reducible refine Split.streq (fun _ => ?_) (fun _ => ?_)) <;> conv => whnf)
            | ((with_reducible refine Split.dec (fun _ => ?_) (fun _ => ?_)) <;> conv => whnf)
            | ((with_reducible refine Split.mk (fun _ => ?_) (fun _ => ?_)) <;> conv => whnf)
            | ((with_reducible refine Need.mk ?_ ?_); (first | omega | rfl | decide | (refine ⟨?_, ?_⟩ <;> simp <;> omega) | (simp; omega)); conv => whnf)
            | ((with_reducible refine Wr.quo ?_ ?_ ?_ ?_); omega; omega; omega; conv => whnf)
            | ((with_reducible refine Wr.inr ?_ ?_); (first | omega | (simp; omega)); conv => whnf)
            | ((with_reducible refine Wr.inu ?_ ?_); omega; conv => whnf)
            | (exfalso; first | omega | contradiction))
          · refine Again.au (k + 1) (by omega) (by omega) ?_
            rw [hs, if_pos (by assumption)]
            exact ⟨by (repeat' (first | exact True.intro | exact rfl | refine ⟨?_, ?_⟩ | (intro h; cases h; done) | (intro h; exact h) | exact map_snoc | (refine own_congr ?_; simp; done) | (refine int_congr ?_; (first | omega | (simp; omega))) | (simp; done))), by (repeat' (first | exact True.intro | exact rfl | refine ⟨?_, ?_⟩ | (intro h; cases h; done) | (intro h; exact h) | exact map_snoc | (refine own_congr ?_; simp; done) | (refine int_congr ?_; (first | omega | (simp; omega))) | (simp; done))), rfl⟩
          · refine Again.au (k + 1) (by omega) (by omega) ?_
            rw [hs, if_neg (by assumption)]
            exact ⟨by (repeat' (first | exact True.intro | exact rfl | refine ⟨?_, ?_⟩ | (intro h; cases h; done) | (intro h; exact h) | exact map_snoc | (refine own_congr ?_; simp; done) | (refine int_congr ?_; (first | omega | (simp; omega))) | (simp; done))), by (repeat' (first | exact True.intro | exact rfl | refine ⟨?_, ?_⟩ | (intro h; cases h; done) | (intro h; exact h) | exact map_snoc | (refine own_congr ?_; simp; done) | (refine int_congr ?_; (first | omega | (simp; omega))) | (simp; done))), rfl⟩
        · have e : longS (z :: r) = longF z (r.take k) := by rw [longS, List.take_of_length_le (by omega)]
          rw [e]; rfl
  · rw [if_pos h, show srS l x lv w = [] by rw [srS, if_neg h]]
    refine ev_of_awp tysOk mixed (fn := Try.f48) Try.func48 rfl rfl rfl ?_
    conv => whnf
    repeat' (first
      | ((with_reducible refine Split.of_true ?_); conv => whnf)
      | ((with_reducible refine Split.of_false ?_); conv => whnf)
      | ((with_reducible refine Split.neg ?_))
      | ((with_reducible refine Split.is_true ?_ ?_); decide; conv => whnf)
      | ((with_reducible refine Split.is_false ?_ ?_); decide; conv => whnf)
      | ((with_reducible refine Split.nez (fun _ => ?_) (fun _ => ?_)) <;> conv => whnf)
      | ((with_reducible refine Split.eqz (fun _ => ?_) (fun _ => ?_)) <;> conv => whnf)
      | ((with_reducible refine Split.and ?_))
      | ((with_reducible refine Split.or ?_))
      | ((with_reducible refine Split.streq (fun _ => ?_) (fun _ => ?_)) <;> conv => whnf)
      | ((with_reducible refine Split.dec (fun _ => ?_) (fun _ => ?_)) <;> conv => whnf)
      | ((with_reducible refine Split.mk (fun _ => ?_) (fun _ => ?_)) <;> conv => whnf)
      | ((with_reducible refine Need.mk ?_ ?_); (first | omega | rfl | decide | (refine ⟨?_, ?_⟩ <;> simp <;> omega) | (simp; omega)); conv => whnf)
      | ((with_reducible refine Wr.quo ?_ ?_ ?_ ?_); omega; omega; omega; conv => whnf)
      | ((with_reducible refine Wr.inr ?_ ?_); (first | omega | (simp; omega)); conv => whnf)
      | ((with_reducible refine Wr.inu ?_ ?_); omega; conv => whnf)
      | (refine CallK.mk _ (hS) ?_; conv => whnf)
      | (exfalso; first | omega | contradiction))
    rfl
theorem ev_lwin (a b : List (Int × Int)) (h : a.length ≤ 1000000) : Ev Try.prog 50 [.sl 2 (a.map wD), .sl 2 (b.map wD)] (.bool (eqB a b)) := by
  have hla : (a.map wD).length = a.length := List.length_map _
  have hlb : (b.map wD).length = b.length := List.length_map _
  refine ev_of_awp tysOk mixed (fn := Try.f50) Try.func50 rfl rfl rfl ?_
  conv => whnf
  repeat' (first
    | ((with_reducible refine Split.of_true ?_); conv => whnf)
    | ((with_reducible refine Split.of_false ?_); conv => whnf)
    | ((with_reducible refine Split.neg ?_))
    | ((with_reducible refine Split.is_true ?_ ?_); decide; conv => whnf)
    | ((with_reducible refine Split.is_false ?_ ?_); decide; conv => whnf)
    | ((with_reducible refine Split.nez (fun _ => ?_) (fun _ => ?_)) <;> conv => whnf)
    | ((with_reducible refine Split.eqz (fun _ => ?_) (fun _ => ?_)) <;> conv => whnf)
    | ((with_reducible refine Split.and ?_))
    | ((with_reducible refine Split.or ?_))
    | ((with_reducible refine Split.streq (fun _ => ?_) (fun _ => ?_)) <;> conv => whnf)
    | ((with_reducible refine Split.dec (fun _ => ?_) (fun _ => ?_)) <;> conv => whnf)
    | ((with_reducible refine Split.mk (fun _ => ?_) (fun _ => ?_)) <;> conv => whnf)
    | ((with_reducible refine Need.mk ?_ ?_); (first | omega | rfl | decide | (refine ⟨?_, ?_⟩ <;> simp <;> omega) | (simp; omega)); conv => whnf)
    | ((with_reducible refine Wr.quo ?_ ?_ ?_ ?_); omega; omega; omega; conv => whnf)
    | ((with_reducible refine Wr.inr ?_ ?_); (first | omega | (simp; omega)); conv => whnf)
    | ((with_reducible refine Wr.inu ?_ ?_); omega; conv => whnf)
    | (exfalso; first | omega | contradiction))
  · exact congrArg D.bool (eqB_ne fun e => by subst e; omega).symm
  refine LoopK.o2 (fun i : Nat => i ≤ a.length ∧ a.take i = b.take i)
    (fun i => [(5, .d (.int .i64 i))]) (fun _ => []) (fun i => a.length - i) 0 (by simp) ⟨by (repeat' (first | exact True.intro | exact rfl | refine ⟨?_, ?_⟩ | (intro h; cases h; done) | (intro h; exact h) | exact map_snoc | (refine own_congr ?_; simp; done) | (refine int_congr ?_; (first | omega | (simp; omega))) | (simp; done))), by (repeat' (first | exact True.intro | exact rfl | refine ⟨?_, ?_⟩ | (intro h; cases h; done) | (intro h; exact h) | exact map_snoc | (refine own_congr ?_; simp; done) | (refine int_congr ?_; (first | omega | (simp; omega))) | (simp; done))), rfl⟩ ?_
  rintro i ⟨hi, ht⟩
  have hab : a.length = b.length := by omega
  have hxy : (i : Int) < a.length → (∃ x, a[i]? = some x) ∧ ∃ y, b[i]? = some y := fun h => ⟨some_of_lt (by omega), some_of_lt (by omega)⟩
  conv => whnf
  repeat' (first
    | ((with_reducible refine Split.of_true ?_); conv => whnf)
    | ((with_reducible refine Split.of_false ?_); conv => whnf)
    | ((with_reducible refine Split.neg ?_))
    | ((with_reducible refine Split.is_true ?_ ?_); decide; conv => whnf)
    | ((with_reducible refine Split.is_false ?_ ?_); decide; conv => whnf)
    | ((with_reducible refine Split.nez (fun _ => ?_) (fun _ => ?_)) <;> conv => whnf)
    | ((with_reducible refine Split.eqz (fun _ => ?_) (fun _ => ?_)) <;> conv => whnf)
    | ((with_reducible refine Split.and ?_))
    | ((with_reducible refine Split.or ?_))
    | ((with_reducible refine Split.streq (fun _ => ?_) (fun _ => ?_)) <;> conv => whnf)
    | ((with_reducible refine Split.dec (fun _ => ?_) (fun _ => ?_)) <;> conv => whnf)
    | ((with_reducible refine Split.mk (fun _ => ?_) (fun _ => ?_)) <;> conv => whnf)
    | ((with_reducible refine Need.mk ?_ ?_); (first | omega | rfl | decide | (refine ⟨?_, ?_⟩ <;> simp <;> omega) | (simp; omega)); conv => whnf)
    | ((with_reducible refine Wr.quo ?_ ?_ ?_ ?_); omega; omega; omega; conv => whnf)
    | ((with_reducible refine Wr.inr ?_ ?_); (first | omega | (simp; omega)); conv => whnf)
    | ((with_reducible refine Wr.inu ?_ ?_); omega; conv => whnf)
    | (exfalso; first | omega | contradiction))
  · obtain ⟨⟨x, hx⟩, y, hy⟩ := hxy (by omega)
    have hne : x ≠ y → eqB a b = false := fun h => eqB_ne fun e => h (by subst e; exact Option.some.inj (hx.symm.trans hy))
    conv => whnf
    repeat' (first
      | ((refine PickE.map i hy (by omega) ?_); conv => whnf)
      | ((refine PickE.map i hx (by omega) ?_); conv => whnf)
      | ((with_reducible refine Split.of_true ?_); conv => whnf)
      | ((with_reducible refine Split.of_false ?_); conv => whnf)
      | ((with_reducible refine Split.neg ?_))
      | ((with_reducible refine Split.is_true ?_ ?_); decide; conv => whnf)
      | ((with_reducible refine Split.is_false ?_ ?_); decide; conv => whnf)
      | ((with_reducible refine Split.nez (fun _ => ?_) (fun _ => ?_)) <;> conv => whnf)
      | ((with_reducible refine Split.eqz (fun _ => ?_) (fun _ => ?_)) <;> conv => whnf)
      | ((with_reducible refine Split.and ?_))
      | ((with_reducible refine Split.or ?_))
      | ((with_reducible refine Split.streq (fun _ => ?_) (fun _ => ?_)) <;> conv => whnf)
      | ((with_reducible refine Split.dec (fun _ => ?_) (fun _ => ?_)) <;> conv => whnf)
      | ((with_reducible refine Split.mk (fun _ => ?_) (fun _ => ?_)) <;> conv => whnf)
      | ((with_reducible refine Need.mk ?_ ?_); (first | omega | rfl | decide | (refine ⟨?_, ?_⟩ <;> simp <;> omega) | (simp; omega)); conv => whnf)
      | ((with_reducible refine Wr.quo ?_ ?_ ?_ ?_); omega; omega; omega; conv => whnf)
      | ((with_reducible refine Wr.inr ?_ ?_); (first | omega | (simp; omega)); conv => whnf)
      | ((with_reducible refine Wr.inu ?_ ?_); omega; conv => whnf)
      | (exfalso; first | omega | contradiction))
    · have e : x = y := Prod.ext (by assumption) (by assumption)
      subst e
      exact Again.au (i + 1) ⟨by omega, take_succ_eq hx hy ht⟩ (by omega) ⟨by (repeat' (first | exact True.intro | exact rfl | refine ⟨?_, ?_⟩ | (intro h; cases h; done) | (intro h; exact h) | exact map_snoc | (refine own_congr ?_; simp; done) | (refine int_congr ?_; (first | omega | (simp; omega))) | (simp; done))), by (repeat' (first | exact True.intro | exact rfl | refine ⟨?_, ?_⟩ | (intro h; cases h; done) | (intro h; exact h) | exact map_snoc | (refine own_congr ?_; simp; done) | (refine int_congr ?_; (first | omega | (simp; omega))) | (simp; done))), rfl⟩
    all_goals exact congrArg D.bool (hne fun e => by subst e; contradiction).symm
  · exact congrArg D.bool (eqB_of (eq_of_take ht (by omega) (by omega))).symm
theorem ev_LongestR (s : List (Int × Int)) (hs : s ≠ []) (hin : ∀ z ∈ s, 0 ≤ z.1 ∧ z.1 ≤ z.2 ∧ z.2 ≤ 1000000) (hn : s.length ≤ 3001) : Ev Try.prog 51 [.sl 2 (s.map wD)] (wD (longS s)) := by
  cases s with
  | nil => exact absurd rfl hs
  | cons z r =>
    have hsl : ((z :: r).map wD).length = r.length + 1 := by simp
    have hrn : r.length ≤ 3000 := by simp at hn; omega
    refine ev_of_awp tysOk mixed (fn := Try.f51) Try.func51 rfl rfl rfl ?_
    conv => whnf
    repeat' (first
      | ((refine PickE.map 0 (m := z) rfl (by omega) ?_); conv => whnf)
      | ((with_reducible refine Split.of_true ?_); conv => whnf)
      | ((with_reducible refine Split.of_false ?_); conv => whnf)
      | ((with_reducible refine Split.neg ?_))
      | ((with_reducible refine Split.is_true ?_ ?_); decide; conv => whnf)
      | ((with_reducible refine Split.is_false ?_ ?_); decide; conv => whnf)
      | ((with_reducible refine Split.nez (fun _ => ?_) (fun _ => ?_)) <;> conv => whnf)
      | ((with_reducible refine Split.eqz (fun _ => ?_) (fun _ => ?_)) <;> conv => whnf)
      | ((with_reducible refine Split.and ?_))
      | ((with_reducible refine Split.or ?_))
      | ((with_reducible refine Split.streq (fun _ => ?_) (fun _ => ?_)) <;> conv => whnf)
      | ((with_reducible refine Split.dec (fun _ => ?_) (fun _ => ?_)) <;> conv => whnf)
      | ((with_reducible refine Split.mk (fun _ => ?_) (fun _ => ?_)) <;> conv => whnf)
      | ((with_reducible refine Need.mk ?_ ?_); (first | omega | rfl | decide | (refine ⟨?_, ?_⟩ <;> simp <;> omega) | (simp; omega)); conv => whnf)
      | ((with_reducible refine Wr.quo ?_ ?_ ?_ ?_); omega; omega; omega; conv => whnf)
      | ((with_reducible refine Wr.inr ?_ ?_); (first | omega | (simp; omega)); conv => whnf)
      | ((with_reducible refine Wr.inu ?_ ?_); omega; conv => whnf)
      | (exfalso; first | omega | contradiction))
    refine LoopK.o2 (fun k : Nat => k ≤ r.length) (fun k => [(4, .d (.int .i64 ((k : Int) + 1)))]) (fun k => [(3, .var [.d (.int .i64 (longF z (r.take k)).1), .d (.int .i64 (longF z (r.take k)).2)] false)]) (fun k => r.length - k) 0 (by simp) ⟨by (repeat' (first | exact True.intro | exact rfl | refine ⟨?_, ?_⟩ | (intro h; cases h; done) | (intro h; exact h) | exact map_snoc | (refine own_congr ?_; simp; done) | (refine int_congr ?_; (first | omega | (simp; omega))) | (simp; done))), by (repeat' (first | exact True.intro | exact rfl | refine ⟨?_, ?_⟩ | (intro h; cases h; done) | (intro h; exact h) | exact map_snoc | (refine own_congr ?_; simp; done) | (refine int_congr ?_; (first | omega | (simp; omega))) | (simp; done))), rfl⟩ ?_
    intro k hk
    have hb := longF_in (P := fun z => 0 ≤ z.1 ∧ z.1 ≤ z.2 ∧ z.2 ≤ 1000000) (r.take k) z (hin z (by simp)) (fun y hy => hin y (by simp [List.mem_of_mem_take hy]))
    have hn : (k : Int) + 1 < r.length + 1 → ∃ m, r[k]? = some m := fun h => some_of_lt (by omega)
    conv => whnf
    repeat' (first
      | ((with_reducible refine Split.of_true ?_); conv => whnf)
      | ((with_reducible refine Split.of_false ?_); conv => whnf)
      | ((with_reducible refine Split.neg ?_))
      | ((with_reducible refine Split.is_true ?_ ?_); decide; conv => whnf)
      | ((with_reducible refine Split.is_false ?_ ?_); decide; conv => whnf)
      | ((with_reducible refine Split.nez (fun _ => ?_) (fun _ => ?_)) <;> conv => whnf)
      | ((with_reducible refine Split.eqz (fun _ => ?_) (fun _ => ?_)) <;> conv => whnf)
      | ((with_reducible refine Split.and ?_))
      | ((with_reducible refine Split.or ?_))
      | ((with_reducible refine Split.streq (fun _ => ?_) (fun _ => ?_)) <;> conv => whnf)
      | ((with_reducible refine Split.dec (fun _ => ?_) (fun _ => ?_)) <;> conv => whnf)
      | ((with_reducible refine Split.mk (fun _ => ?_) (fun _ => ?_)) <;> conv => whnf)
      | ((with_reducible refine Need.mk ?_ ?_); (first | omega | rfl | decide | (refine ⟨?_, ?_⟩ <;> simp <;> omega) | (simp; omega)); conv => whnf)
      | ((with_reducible refine Wr.quo ?_ ?_ ?_ ?_); omega; omega; omega; conv => whnf)
      | ((with_reducible refine Wr.inr ?_ ?_); (first | omega | (simp; omega)); conv => whnf)
      | ((with_reducible refine Wr.inu ?_ ?_); omega; conv => whnf)
      | (exfalso; first | omega | contradiction))
    · obtain ⟨v, hv⟩ := hn (by omega)
      have hvb := hin v (by simp [List.mem_of_getElem? hv])
      have hs : longF z (r.take (k + 1)) = if v.2 - v.1 > (longF z (r.take k)).2 - (longF z (r.take k)).1 then v else longF z (r.take k) := by rw [take_snoc hv, longF_snoc]
      have hv' : (z :: r)[k + 1]? = some v := by simpa using hv
      generalize longF z (r.take k) = y at *
      obtain ⟨y1, y2⟩ := y
      dsimp only at hb hs
      conv => whnf
      repeat' (first
        | ((refine PickE.map (k + 1) hv' (by omega) ?_); conv => whnf)
        | ((with_reducible refine Split.of_true ?_); conv => whnf)
        | ((with_reducible refine Split.of_false ?_); conv => whnf)
        | ((with_reducible refine Split.neg ?_))
        | ((with_reducible refine Split.is_true ?_ ?_); decide; conv => whnf)
        | ((with_reducible refine Split.is_false ?_ ?_); decide; conv => whnf)
        | ((with_reducible refine Split.nez (fun _ => ?_) (fun _ => ?_)) <;> conv => whnf)
        | ((with_reducible refine Split.eqz (fun _ => ?_) (fun _ => ?_)) <;> conv => whnf)
        | ((with_reducible refine Split.and ?_))
        | ((with_reducible refine Split.or ?_))
        | ((with_reducible refine Split.streq (fun _ => ?_) (fun _ => ?_)) <;> conv => whnf)
        | ((with_reducible refine Split.dec (fun _ => ?_) (fun _ => ?_)) <;> conv => whnf)
        | ((with_reducible refine Split.mk (fun _ => ?_) (fun _ => ?_)) <;> conv => whnf)
        | ((with_reducible refine Need.mk ?_ ?_); (first | omega | rfl | decide | (refine ⟨?_, ?_⟩ <;> simp <;> omega) | (simp; omega)); conv => whnf)
        | ((with_reducible refine Wr.quo ?_ ?_ ?_ ?_); omega; omega; omega; conv => whnf)
        | ((with_reducible refine Wr.inr ?_ ?_); (first | omega | (simp; omega)); conv => whnf)
        | ((with_reducible refine Wr.inu ?_ ?_); omega; conv => whnf)
        | (exfalso; first | omega | contradiction))
      · refine Again.au (k + 1) (by omega) (by omega) ?_
        rw [hs, if_pos (by assumption)]
        exact ⟨by (repeat' (first | exact True.intro | exact rfl | refine ⟨?_, ?_⟩ | (intro h; cases h; done) | (intro h; exact h) | exact map_snoc | (refine own_congr ?_; simp; done) | (refine int_congr ?_; (first | omega | (simp; omega))) | (simp; done))), by (repeat' (first | exact True.intro | exact rfl | refine ⟨?_, ?_⟩ | (intro h; cases h; done) | (intro h; exact h) | exact map_snoc | (refine own_congr ?_; simp; done) | (refine int_congr ?_; (first | omega | (simp; omega))) | (simp; done))), rfl⟩
      · refine Again.au (k + 1) (by omega) (by omega) ?_
        rw [hs, if_neg (by assumption)]
        exact ⟨by (repeat' (first | exact True.intro | exact rfl | refine ⟨?_, ?_⟩ | (intro h; cases h; done) | (intro h; exact h) | exact map_snoc | (refine own_congr ?_; simp; done) | (refine int_congr ?_; (first | omega | (simp; omega))) | (simp; done))), by (repeat' (first | exact True.intro | exact rfl | refine ⟨?_, ?_⟩ | (intro h; cases h; done) | (intro h; exact h) | exact map_snoc | (refine own_congr ?_; simp; done) | (refine int_congr ?_; (first | omega | (simp; omega))) | (simp; done))), rfl⟩
    · have e : longS (z :: r) = longF z (r.take k) := by rw [longS, List.take_of_length_le (by omega)]
      rw [e]; rfl
def sideP (lv : Int) (sure : Bool) : Int → Int → Bool := if sure then sureP lv else possP lv
theorem ev_WindowsR (l : List Ga) (x lv : Int) (w : Int × Int) (sure : Bool) (h : viewErr l x w = 0) :
    Ev Try.prog 49 [.sl 4 (l.map gD), .int .i64 x, .int .i64 lv, wD w, .bool sure] (.sl 2 ((winS l x (sideP lv sure) w.1 (mins w)).map wD)) := by
  obtain ⟨hG, hx, hw1, hw2, hw3, hw4⟩ := view_ok h
  refine ev_of_awp tysOk mixed (fn := Try.f49) Try.func49 rfl rfl rfl ?_
  conv => whnf
  repeat' (first
    | ((with_reducible refine Split.of_true ?_); conv => whnf)
    | ((with_reducible refine Split.of_false ?_); conv => whnf)
    | ((with_reducible refine Split.neg ?_))
    | ((with_reducible refine Split.is_true ?_ ?_); decide; conv => whnf)
    | ((with_reducible refine Split.is_false ?_ ?_); decide; conv => whnf)
    | ((with_reducible refine Split.nez (fun _ => ?_) (fun _ => ?_)) <;> conv => whnf)
    | ((with_reducible refine Split.eqz (fun _ => ?_) (fun _ => ?_)) <;> conv => whnf)
    | ((with_reducible refine Split.and ?_))
    | ((with_reducible refine Split.or ?_))
    | ((with_reducible refine Split.streq (fun _ => ?_) (fun _ => ?_)) <;> conv => whnf)
    | ((with_reducible refine Split.dec (fun _ => ?_) (fun _ => ?_)) <;> conv => whnf)
    | ((with_reducible refine Split.mk (fun _ => ?_) (fun _ => ?_)) <;> conv => whnf)
    | ((with_reducible refine Need.mk ?_ ?_); (first | omega | rfl | decide | (refine ⟨?_, ?_⟩ <;> simp <;> omega) | (simp; omega)); conv => whnf)
    | ((with_reducible refine Wr.quo ?_ ?_ ?_ ?_); omega; omega; omega; conv => whnf)
    | ((with_reducible refine Wr.inr ?_ ?_); (first | omega | (simp; omega)); conv => whnf)
    | ((with_reducible refine Wr.inu ?_ ?_); omega; conv => whnf)
    | (exfalso; first | omega | contradiction))
  refine LoopK.o2 (fun k : Nat => k ≤ mins w) (fun k => [(11, .own 200 2 ((winS l x (sideP lv sure) w.1 k).map wD).length), (12, .d (.int .i64 (w.1 + k)))])
    (fun k => [(200, .row 65 2 ((winS l x (sideP lv sure) w.1 k).map wD) false)]) (fun k => mins w - k) 0 (by simp) ⟨by (repeat' (first | exact True.intro | exact rfl | refine ⟨?_, ?_⟩ | (intro h; cases h; done) | (intro h; exact h) | exact map_snoc | (refine own_congr ?_; simp; done) | (refine int_congr ?_; (first | omega | (simp; omega))) | (simp; done))), by (repeat' (first | exact True.intro | exact rfl | refine ⟨?_, ?_⟩ | (intro h; cases h; done) | (intro h; exact h) | exact map_snoc | (refine own_congr ?_; simp; done) | (refine int_congr ?_; (first | omega | (simp; omega))) | (simp; done))), rfl⟩ ?_
  intro k hk
  have hmk : (mins w : Int) = w.2 - w.1 + 1 := by unfold mins; omega
  have hwl := win_len l x (sideP lv sure) w.1 k
  have hwl' : ((winS l x (sideP lv sure) w.1 k).map wD).length = (winS l x (sideP lv sure) w.1 k).length := List.length_map _
  have hL : w.1 + (k : Int) ≤ w.2 → _ := fun hle => ev_LevelR hG hx (t := w.1 + k) (by omega)
  have hs : winS l x (sideP lv sure) w.1 (k + 1) = if gdB l x (sideP lv sure) (w.1 + k) then wAdd (winS l x (sideP lv sure) w.1 k) (w.1 + k) else winS l x (sideP lv sure) w.1 k := rfl
  have hin := win_in l x (sideP lv sure) w.1 k
  generalize ho : winS l x (sideP lv sure) w.1 k = o at *
  conv => whnf
  repeat' (first
    | ((with_reducible refine Split.of_true ?_); conv => whnf)
    | ((with_reducible refine Split.of_false ?_); conv => whnf)
    | ((with_reducible refine Split.neg ?_))
    | ((with_reducible refine Split.is_true ?_ ?_); decide; conv => whnf)
    | ((with_reducible refine Split.is_false ?_ ?_); decide; conv => whnf)
    | ((with_reducible refine Split.nez (fun _ => ?_) (fun _ => ?_)) <;> conv => whnf)
    | ((with_reducible refine Split.eqz (fun _ => ?_) (fun _ => ?_)) <;> conv => whnf)
    | ((with_reducible refine Split.and ?_))
    | ((with_reducible refine Split.or ?_))
    | ((with_reducible refine Split.streq (fun _ => ?_) (fun _ => ?_)) <;> conv => whnf)
    | ((with_reducible refine Split.dec (fun _ => ?_) (fun _ => ?_)) <;> conv => whnf)
    | ((with_reducible refine Split.mk (fun _ => ?_) (fun _ => ?_)) <;> conv => whnf)
    | ((with_reducible refine Need.mk ?_ ?_); (first | omega | rfl | decide | (refine ⟨?_, ?_⟩ <;> simp <;> omega) | (simp; omega)); conv => whnf)
    | ((with_reducible refine Wr.quo ?_ ?_ ?_ ?_); omega; omega; omega; conv => whnf)
    | ((with_reducible refine Wr.inr ?_ ?_); (first | omega | (simp; omega)); conv => whnf)
    | ((with_reducible refine Wr.inu ?_ ?_); omega; conv => whnf)
    | (exfalso; first | omega | contradiction))
  · have hL := hL (by omega)
    have hg : gdB l x (sideP lv sure) (w.1 + k) = ((lvS l x (w.1 + k)).2.2 && sideP lv sure (lvS l x (w.1 + k)).1 (lvS l x (w.1 + k)).2.1) := rfl
    rw [hg] at hs
    generalize lvS l x (w.1 + k) = v at *
    obtain ⟨lo, hi, ok⟩ := v
    dsimp only at hs
    cases ok with
    | false =>
      conv => whnf
      repeat' (first
        | ((with_reducible refine Split.of_true ?_); conv => whnf)
        | ((with_reducible refine Split.of_false ?_); conv => whnf)
        | ((with_reducible refine Split.neg ?_))
        | ((with_reducible refine Split.is_true ?_ ?_); decide; conv => whnf)
        | ((with_reducible refine Split.is_false ?_ ?_); decide; conv => whnf)
        | ((with_reducible refine Split.nez (fun _ => ?_) (fun _ => ?_)) <;> conv => whnf)
        | ((with_reducible refine Split.eqz (fun _ => ?_) (fun _ => ?_)) <;> conv => whnf)
        | ((with_reducible refine Split.and ?_))
        | ((with_reducible refine Split.or ?_))
        | ((with_reducible refine Split.streq (fun _ => ?_) (fun _ => ?_)) <;> conv => whnf)
        | ((with_reducible refine Split.dec (fun _ => ?_) (fun _ => ?_)) <;> conv => whnf)
        | ((with_reducible refine Split.mk (fun _ => ?_) (fun _ => ?_)) <;> conv => whnf)
        | ((with_reducible refine Need.mk ?_ ?_); (first | omega | rfl | decide | (refine ⟨?_, ?_⟩ <;> simp <;> omega) | (simp; omega)); conv => whnf)
        | ((with_reducible refine Wr.quo ?_ ?_ ?_ ?_); omega; omega; omega; conv => whnf)
        | ((with_reducible refine Wr.inr ?_ ?_); (first | omega | (simp; omega)); conv => whnf)
        | ((with_reducible refine Wr.inu ?_ ?_); omega; conv => whnf)
        | (refine CallK.mk _ (hL) ?_; conv => whnf)
        | (exfalso; first | omega | contradiction))
      refine Again.au (k + 1) (by omega) (by omega) ?_
      rw [hs]
      exact ⟨by (repeat' (first | exact True.intro | exact rfl | refine ⟨?_, ?_⟩ | (intro h; cases h; done) | (intro h; exact h) | exact map_snoc | (refine own_congr ?_; simp; done) | (refine int_congr ?_; (first | omega | (simp; omega))) | (simp; done))), by (repeat' (first | exact True.intro | exact rfl | refine ⟨?_, ?_⟩ | (intro h; cases h; done) | (intro h; exact h) | exact map_snoc | (refine own_congr ?_; simp; done) | (refine int_congr ?_; (first | omega | (simp; omega))) | (simp; done))), rfl⟩
    | true =>
      have hL : Ev Try.prog 39 [.sl 4 (l.map gD), .int .i64 x, .int .i64 (w.1 + k)] (.tup [ivD lo hi, .bool true]) := hL
      have skip : sideP lv sure lo hi = false → winS l x (sideP lv sure) w.1 (k + 1) = o := fun e => by rw [hs, e]; rfl
      have add : sideP lv sure lo hi = true → winS l x (sideP lv sure) w.1 (k + 1) = wAdd o (w.1 + k) := fun e => by rw [hs, e]; rfl
      cases sure
      · have skip : ¬ hi ≥ lv → winS l x (sideP lv false) w.1 (k + 1) = o := fun e => skip (by simp [sideP, possP]; omega)
        have add : hi ≥ lv → winS l x (sideP lv false) w.1 (k + 1) = wAdd o (w.1 + k) := fun e => add (by simp [sideP, possP]; omega)
        by_cases hc : hi ≥ lv
        · have add := add hc
          rcases nil_or_snoc o with rfl | ⟨o, z, rfl⟩
          · have hz0 : (List.map wD ([] : List (Int × Int))).length = 0 := rfl
            have add : winS l x (sideP lv false) w.1 (k + 1) = [] ++ [(w.1 + (k : Int), w.1 + (k : Int))] := add
            conv => whnf
            repeat' (first
              | ((with_reducible refine Split.of_true ?_); conv => whnf)
              | ((with_reducible refine Split.of_false ?_); conv => whnf)
              | ((with_reducible refine Split.neg ?_))
              | ((with_reducible refine Split.is_true ?_ ?_); decide; conv => whnf)
              | ((with_reducible refine Split.is_false ?_ ?_); decide; conv => whnf)
              | ((with_reducible refine Split.nez (fun _ => ?_) (fun _ => ?_)) <;> conv => whnf)
              | ((with_reducible refine Split.eqz (fun _ => ?_) (fun _ => ?_)) <;> conv => whnf)
              | ((with_reducible refine Split.and ?_))
              | ((with_reducible refine Split.or ?_))
              | ((with_reducible refine Split.streq (fun _ => ?_) (fun _ => ?_)) <;> conv => whnf)
              | ((with_reducible refine Split.dec (fun _ => ?_) (fun _ => ?_)) <;> conv => whnf)
              | ((with_reducible refine Split.mk (fun _ => ?_) (fun _ => ?_)) <;> conv => whnf)
              | ((with_reducible refine Need.mk ?_ ?_); (first | omega | rfl | decide | (refine ⟨?_, ?_⟩ <;> simp <;> omega) | (simp; omega)); conv => whnf)
              | ((with_reducible refine Wr.quo ?_ ?_ ?_ ?_); omega; omega; omega; conv => whnf)
              | ((with_reducible refine Wr.inr ?_ ?_); (first | omega | (simp; omega)); conv => whnf)
              | ((with_reducible refine Wr.inu ?_ ?_); omega; conv => whnf)
              | (refine CallK.mk _ (hL) ?_; conv => whnf)
              | (exfalso; first | omega | contradiction))
            refine Again.au (k + 1) (by omega) (by omega) ?_
            rw [add]
            exact ⟨by (repeat' (first | exact True.intro | exact rfl | refine ⟨?_, ?_⟩ | (intro h; cases h; done) | (intro h; exact h) | exact map_snoc | (refine own_congr ?_; simp; done) | (refine int_congr ?_; (first | omega | (simp; omega))) | (simp; done) | (refine own_congr ?_; simp [wD]; done) | (refine int_congr ?_; simp [wD]; done) | (simp [wD]; done) | (simp [D.cells, wD]; done))), by (repeat' (first | exact True.intro | exact rfl | refine ⟨?_, ?_⟩ | (intro h; cases h; done) | (intro h; exact h) | exact map_snoc | (refine own_congr ?_; simp; done) | (refine int_congr ?_; (first | omega | (simp; omega))) | (simp; done) | (refine own_congr ?_; simp [wD]; done) | (refine int_congr ?_; simp [wD]; done) | (simp [wD]; done) | (simp [D.cells, wD]; done))), rfl⟩
          · have hzb := hin z (by simp)
            have hzl : ((o ++ [z]).map wD).length = o.length + 1 := by simp
            rw [wAdd_snoc] at add
            conv => whnf
            repeat' (first
              | ((refine PickE.map o.length (snoc_get o z) (by omega) ?_); conv => whnf)
              | ((with_reducible refine Split.of_true ?_); conv => whnf)
              | ((with_reducible refine Split.of_false ?_); conv => whnf)
              | ((with_reducible refine Split.neg ?_))
              | ((with_reducible refine Split.is_true ?_ ?_); decide; conv => whnf)
              | ((with_reducible refine Split.is_false ?_ ?_); decide; conv => whnf)
              | ((with_reducible refine Split.nez (fun _ => ?_) (fun _ => ?_)) <;> conv => whnf)
              | ((with_reducible refine Split.eqz (fun _ => ?_) (fun _ => ?_)) <;> conv => whnf)
              | ((with_reducible refine Split.and ?_))
              | ((with_reducible refine Split.or ?_))
              | ((with_reducible refine Split.streq (fun _ => ?_) (fun _ => ?_)) <;> conv => whnf)
              | ((with_reducible refine Split.dec (fun _ => ?_) (fun _ => ?_)) <;> conv => whnf)
              | ((with_reducible refine Split.mk (fun _ => ?_) (fun _ => ?_)) <;> conv => whnf)
              | ((with_reducible refine Need.mk ?_ ?_); (first | omega | rfl | decide | (refine ⟨?_, ?_⟩ <;> simp <;> omega) | (simp; omega)); conv => whnf)
              | ((with_reducible refine Wr.quo ?_ ?_ ?_ ?_); omega; omega; omega; conv => whnf)
              | ((with_reducible refine Wr.inr ?_ ?_); (first | omega | (simp; omega)); conv => whnf)
              | ((with_reducible refine Wr.inu ?_ ?_); omega; conv => whnf)
              | (refine CallK.mk _ (hL) ?_; conv => whnf)
              | (exfalso; first | omega | contradiction))
            · refine Again.au (k + 1) (by omega) (by omega) ?_
              rw [add, if_pos (by assumption)]
              exact ⟨by (repeat' (first | exact True.intro | exact rfl | refine ⟨?_, ?_⟩ | (refine own_congr ?_; simp; done) | (refine int_congr ?_; omega))), by (repeat' (first | exact True.intro | exact rfl | refine ⟨?_, ?_⟩ | (intro h; cases h; done) | (intro h; exact h) | (refine (set_last (by simp)).trans ?_; simp [wD]; done))), rfl⟩
            · refine Again.au (k + 1) (by omega) (by omega) ?_
              rw [add, if_neg (by assumption)]
              exact ⟨by (repeat' (first | exact True.intro | exact rfl | refine ⟨?_, ?_⟩ | (intro h; cases h; done) | (intro h; exact h) | exact map_snoc | (refine own_congr ?_; simp; done) | (refine int_congr ?_; (first | omega | (simp; omega))) | (simp; done) | (refine own_congr ?_; simp [wD]; done) | (refine int_congr ?_; simp [wD]; done) | (simp [wD]; done) | (simp [D.cells, wD]; done))), by (repeat' (first | exact True.intro | exact rfl | refine ⟨?_, ?_⟩ | (intro h; cases h; done) | (intro h; exact h) | exact map_snoc | (refine own_congr ?_; simp; done) | (refine int_congr ?_; (first | omega | (simp; omega))) | (simp; done) | (refine own_congr ?_; simp [wD]; done) | (refine int_congr ?_; simp [wD]; done) | (simp [wD]; done) | (simp [D.cells, wD]; done))), rfl⟩
        · have skip := skip hc
          conv => whnf
          repeat' (first
            | ((with_reducible refine Split.of_true ?_); conv => whnf)
            | ((with_reducible refine Split.of_false ?_); conv => whnf)
            | ((with_reducible refine Split.neg ?_))
            | ((with_reducible refine Split.is_true ?_ ?_); decide; conv => whnf)
            | ((with_reducible refine Split.is_false ?_ ?_); decide; conv => whnf)
            | ((with_reducible refine Split.nez (fun _ => ?_) (fun _ => ?_)) <;> conv => whnf)
            | ((with_reducible refine Split.eqz (fun _ => ?_) (fun _ => ?_)) <;> conv => whnf)
            | ((with_reducible refine Split.and ?_))
            | ((with_reducible refine Split.or ?_))
            | ((with_reducible refine Split.streq (fun _ => ?_) (fun _ => ?_)) <;> conv => whnf)
            | ((with_reducible refine Split.dec (fun _ => ?_) (fun _ => ?_)) <;> conv => whnf)
            | ((with_reducible refine Split.mk (fun _ => ?_) (fun _ => ?_)) <;> conv => whnf)
            | ((with_reducible refine Need.mk ?_ ?_); (first | omega | rfl | decide | (refine ⟨?_, ?_⟩ <;> simp <;> omega) | (simp; omega)); conv => whnf)
            | ((with_reducible refine Wr.quo ?_ ?_ ?_ ?_); omega; omega; omega; conv => whnf)
            | ((with_reducible refine Wr.inr ?_ ?_); (first | omega | (simp; omega)); conv => whnf)
            | ((with_reducible refine Wr.inu ?_ ?_); omega; conv => whnf)
            | (refine CallK.mk _ (hL) ?_; conv => whnf)
            | (exfalso; first | omega | contradiction))
          refine Again.au (k + 1) (by omega) (by omega) ?_
          rw [skip]
          exact ⟨by (repeat' (first | exact True.intro | exact rfl | refine ⟨?_, ?_⟩ | (intro h; cases h; done) | (intro h; exact h) | exact map_snoc | (refine own_congr ?_; simp; done) | (refine int_congr ?_; (first | omega | (simp; omega))) | (simp; done))), by (repeat' (first | exact True.intro | exact rfl | refine ⟨?_, ?_⟩ | (intro h; cases h; done) | (intro h; exact h) | exact map_snoc | (refine own_congr ?_; simp; done) | (refine int_congr ?_; (first | omega | (simp; omega))) | (simp; done))), rfl⟩
      · have skip : ¬ lo ≥ lv → winS l x (sideP lv true) w.1 (k + 1) = o := fun e => skip (by simp [sideP, sureP]; omega)
        have add : lo ≥ lv → winS l x (sideP lv true) w.1 (k + 1) = wAdd o (w.1 + k) := fun e => add (by simp [sideP, sureP]; omega)
        by_cases hc : lo ≥ lv
        · have add := add hc
          rcases nil_or_snoc o with rfl | ⟨o, z, rfl⟩
          · have hz0 : (List.map wD ([] : List (Int × Int))).length = 0 := rfl
            have add : winS l x (sideP lv true) w.1 (k + 1) = [] ++ [(w.1 + (k : Int), w.1 + (k : Int))] := add
            conv => whnf
            repeat' (first
              | ((with_reducible refine Split.of_true ?_); conv => whnf)
              | ((with_reducible refine Split.of_false ?_); conv => whnf)
              | ((with_reducible refine Split.neg ?_))
              | ((with_reducible refine Split.is_true ?_ ?_); decide; conv => whnf)
              | ((with_reducible refine Split.is_false ?_ ?_); decide; conv => whnf)
              | ((with_reducible refine Split.nez (fun _ => ?_) (fun _ => ?_)) <;> conv => whnf)
              | ((with_reducible refine Split.eqz (fun _ => ?_) (fun _ => ?_)) <;> conv => whnf)
              | ((with_reducible refine Split.and ?_))
              | ((with_reducible refine Split.or ?_))
              | ((with_reducible refine Split.streq (fun _ => ?_) (fun _ => ?_)) <;> conv => whnf)
              | ((with_reducible refine Split.dec (fun _ => ?_) (fun _ => ?_)) <;> conv => whnf)
              | ((with_reducible refine Split.mk (fun _ => ?_) (fun _ => ?_)) <;> conv => whnf)
              | ((with_reducible refine Need.mk ?_ ?_); (first | omega | rfl | decide | (refine ⟨?_, ?_⟩ <;> simp <;> omega) | (simp; omega)); conv => whnf)
              | ((with_reducible refine Wr.quo ?_ ?_ ?_ ?_); omega; omega; omega; conv => whnf)
              | ((with_reducible refine Wr.inr ?_ ?_); (first | omega | (simp; omega)); conv => whnf)
              | ((with_reducible refine Wr.inu ?_ ?_); omega; conv => whnf)
              | (refine CallK.mk _ (hL) ?_; conv => whnf)
              | (exfalso; first | omega | contradiction))
            refine Again.au (k + 1) (by omega) (by omega) ?_
            rw [add]
            exact ⟨by (repeat' (first | exact True.intro | exact rfl | refine ⟨?_, ?_⟩ | (intro h; cases h; done) | (intro h; exact h) | exact map_snoc | (refine own_congr ?_; simp; done) | (refine int_congr ?_; (first | omega | (simp; omega))) | (simp; done) | (refine own_congr ?_; simp [wD]; done) | (refine int_congr ?_; simp [wD]; done) | (simp [wD]; done) | (simp [D.cells, wD]; done))), by (repeat' (first | exact True.intro | exact rfl | refine ⟨?_, ?_⟩ | (intro h; cases h; done) | (intro h; exact h) | exact map_snoc | (refine own_congr ?_; simp; done) | (refine int_congr ?_; (first | omega | (simp; omega))) | (simp; done) | (refine own_congr ?_; simp [wD]; done) | (refine int_congr ?_; simp [wD]; done) | (simp [wD]; done) | (simp [D.cells, wD]; done))), rfl⟩
          · have hzb := hin z (by simp)
            have hzl : ((o ++ [z]).map wD).length = o.length + 1 := by simp
            rw [wAdd_snoc] at add
            conv => whnf
            repeat' (first
              | ((refine PickE.map o.length (snoc_get o z) (by omega) ?_); conv => whnf)
              | ((with_reducible refine Split.of_true ?_); conv => whnf)
              | ((with_reducible refine Split.of_false ?_); conv => whnf)
              | ((with_reducible refine Split.neg ?_))
              | ((with_reducible refine Split.is_true ?_ ?_); decide; conv => whnf)
              | ((with_reducible refine Split.is_false ?_ ?_); decide; conv => whnf)
              | ((with_reducible refine Split.nez (fun _ => ?_) (fun _ => ?_)) <;> conv => whnf)
              | ((with_reducible refine Split.eqz (fun _ => ?_) (fun _ => ?_)) <;> conv => whnf)
              | ((with_reducible refine Split.and ?_))
              | ((with_reducible refine Split.or ?_))
              | ((with_reducible refine Split.streq (fun _ => ?_) (fun _ => ?_)) <;> conv => whnf)
              | ((with_reducible refine Split.dec (fun _ => ?_) (fun _ => ?_)) <;> conv => whnf)
              | ((with_reducible refine Split.mk (fun _ => ?_) (fun _ => ?_)) <;> conv => whnf)
              | ((with_reducible refine Need.mk ?_ ?_); (first | omega | rfl | decide | (refine ⟨?_, ?_⟩ <;> simp <;> omega) | (simp; omega)); conv => whnf)
              | ((with_reducible refine Wr.quo ?_ ?_ ?_ ?_); omega; omega; omega; conv => whnf)
              | ((with_reducible refine Wr.inr ?_ ?_); (first | omega | (simp; omega)); conv => whnf)
              | ((with_reducible refine Wr.inu ?_ ?_); omega; conv => whnf)
              | (refine CallK.mk _ (hL) ?_; conv => whnf)
              | (exfalso; first | omega | contradiction))
            · refine Again.au (k + 1) (by omega) (by omega) ?_
              rw [add, if_pos (by assumption)]
              exact ⟨by (repeat' (first | exact True.intro | exact rfl | refine ⟨?_, ?_⟩ | (refine own_congr ?_; simp; done) | (refine int_congr ?_; omega))), by (repeat' (first | exact True.intro | exact rfl | refine ⟨?_, ?_⟩ | (intro h; cases h; done) | (intro h; exact h) | (refine (set_last (by simp)).trans ?_; simp [wD]; done))), rfl⟩
            · refine Again.au (k + 1) (by omega) (by omega) ?_
              rw [add, if_neg (by assumption)]
              exact ⟨by (repeat' (first | exact True.intro | exact rfl | refine ⟨?_, ?_⟩ | (intro h; cases h; done) | (intro h; exact h) | exact map_snoc | (refine own_congr ?_; simp; done) | (refine int_congr ?_; (first | omega | (simp; omega))) | (simp; done) | (refine own_congr ?_; simp [wD]; done) | (refine int_congr ?_; simp [wD]; done) | (simp [wD]; done) | (simp [D.cells, wD]; done))), by (repeat' (first | exact True.intro | exact rfl | refine ⟨?_, ?_⟩ | (intro h; cases h; done) | (intro h; exact h) | exact map_snoc | (refine own_congr ?_; simp; done) | (refine int_congr ?_; (first | omega | (simp; omega))) | (simp; done) | (refine own_congr ?_; simp [wD]; done) | (refine int_congr ?_; simp [wD]; done) | (simp [wD]; done) | (simp [D.cells, wD]; done))), rfl⟩
        · have skip := skip hc
          conv => whnf
          repeat' (first
            | ((with_reducible refine Split.of_true ?_); conv => whnf)
            | ((with_reducible refine Split.of_false ?_); conv => whnf)
            | ((with_reducible refine Split.neg ?_))
            | ((with_reducible refine Split.is_true ?_ ?_); decide; conv => whnf)
            | ((with_reducible refine Split.is_false ?_ ?_); decide; conv => whnf)
            | ((with_reducible refine Split.nez (fun _ => ?_) (fun _ => ?_)) <;> conv => whnf)
            | ((with_reducible refine Split.eqz (fun _ => ?_) (fun _ => ?_)) <;> conv => whnf)
            | ((with_reducible refine Split.and ?_))
            | ((with_reducible refine Split.or ?_))
            | ((with_reducible refine Split.streq (fun _ => ?_) (fun _ => ?_)) <;> conv => whnf)
            | ((with_reducible refine Split.dec (fun _ => ?_) (fun _ => ?_)) <;> conv => whnf)
            | ((with_reducible refine Split.mk (fun _ => ?_) (fun _ => ?_)) <;> conv => whnf)
            | ((with_reducible refine Need.mk ?_ ?_); (first | omega | rfl | decide | (refine ⟨?_, ?_⟩ <;> simp <;> omega) | (simp; omega)); conv => whnf)
            | ((with_reducible refine Wr.quo ?_ ?_ ?_ ?_); omega; omega; omega; conv => whnf)
            | ((with_reducible refine Wr.inr ?_ ?_); (first | omega | (simp; omega)); conv => whnf)
            | ((with_reducible refine Wr.inu ?_ ?_); omega; conv => whnf)
            | (refine CallK.mk _ (hL) ?_; conv => whnf)
            | (exfalso; first | omega | contradiction))
          refine Again.au (k + 1) (by omega) (by omega) ?_
          rw [skip]
          exact ⟨by (repeat' (first | exact True.intro | exact rfl | refine ⟨?_, ?_⟩ | (intro h; cases h; done) | (intro h; exact h) | exact map_snoc | (refine own_congr ?_; simp; done) | (refine int_congr ?_; (first | omega | (simp; omega))) | (simp; done))), by (repeat' (first | exact True.intro | exact rfl | refine ⟨?_, ?_⟩ | (intro h; cases h; done) | (intro h; exact h) | exact map_snoc | (refine own_congr ?_; simp; done) | (refine int_congr ?_; (first | omega | (simp; omega))) | (simp; done))), rfl⟩
  · have e : k = mins w := by omega
    rw [← e, ho]; rfl
theorem ev_TideWindows (v : Vw) (lv : Int) : Ev Try.prog 12 [vD v, .int .i64 lv] (.bool true) := by
  have hL := ev_Light v
  have hR := ev_CheckView v.gs v.x v.w
  have hS := ev_Sure v.gs v.x lv v.w
  have hP := ev_Possible v.gs v.x lv v.w
  have hF := ev_First v.gs v.x lv v.w
  have hO := ev_Longest v.gs v.x lv v.w
  by_cases h : viewErr v.gs v.x v.w = 0
  · have hW1 := ev_WindowsR v.gs v.x lv v.w true h
    have hW2 := ev_WindowsR v.gs v.x lv v.w false h
    have e1 : winS v.gs v.x (sideP lv true) v.w.1 (mins v.w) = srS v.gs v.x lv v.w := by rw [srS, if_pos h]; rfl
    have e2 : winS v.gs v.x (sideP lv false) v.w.1 (mins v.w) = psS v.gs v.x lv v.w := by rw [psS, if_pos h]; rfl
    rw [e1] at hW1
    rw [e2] at hW2
    have hq1 := ev_lwin (srS v.gs v.x lv v.w) (srS v.gs v.x lv v.w) (by have := @sr_len v.gs v.x lv v.w; omega)
    have hq2 := ev_lwin (psS v.gs v.x lv v.w) (psS v.gs v.x lv v.w) (by have := @ps_len v.gs v.x lv v.w; omega)
    rw [eqB_self] at hq1 hq2
    rw [h] at hR hS hP hF hO
    rw [if_neg (by simp)] at hF hO
    have hin := @sr_in v.gs v.x lv v.w
    have hln := @sr_len v.gs v.x lv v.w
    have hLR := ev_LongestR (srS v.gs v.x lv v.w)
    generalize srS v.gs v.x lv v.w = s at *
    generalize psS v.gs v.x lv v.w = u at *
    have hsl : (s.map wD).length = s.length := List.length_map _
    cases s with
    | nil =>
      rw [if_pos rfl] at hF hO
      refine ev_of_awp tysOk mixed (fn := Try.f12) Try.func12 rfl rfl rfl ?_
      conv => whnf
      repeat' (first
        | ((with_reducible refine Split.of_true ?_); conv => whnf)
        | ((with_reducible refine Split.of_false ?_); conv => whnf)
        | ((with_reducible refine Split.neg ?_))
        | ((with_reducible refine Split.is_true ?_ ?_); decide; conv => whnf)
        | ((with_reducible refine Split.is_false ?_ ?_); decide; conv => whnf)
        | ((with_reducible refine Split.nez (fun _ => ?_) (fun _ => ?_)) <;> conv => whnf)
        | ((with_reducible refine Split.eqz (fun _ => ?_) (fun _ => ?_)) <;> conv => whnf)
        | ((with_reducible refine Split.and ?_))
        | ((with_reducible refine Split.or ?_))
        | ((with_reducible refine Split.streq (fun _ => ?_) (fun _ => ?_)) <;> conv => whnf)
        | ((with_reducible refine Split.dec (fun _ => ?_) (fun _ => ?_)) <;> conv => whnf)
        | ((with_reducible refine Split.mk (fun _ => ?_) (fun _ => ?_)) <;> conv => whnf)
        | ((with_reducible refine Need.mk ?_ ?_); (first | omega | rfl | decide | (refine ⟨?_, ?_⟩ <;> simp <;> omega) | (simp; omega)); conv => whnf)
        | ((with_reducible refine Wr.quo ?_ ?_ ?_ ?_); omega; omega; omega; conv => whnf)
        | ((with_reducible refine Wr.inr ?_ ?_); (first | omega | (simp; omega)); conv => whnf)
        | ((with_reducible refine Wr.inu ?_ ?_); omega; conv => whnf)
        | (refine CallK.mk _ (ev_awake) ?_; conv => whnf)
        | (refine CallK.mk _ (hL) ?_; conv => whnf)
        | (refine CallK.mk _ (hR) ?_; conv => whnf)
        | (refine CallK.mk _ (hS) ?_; conv => whnf)
        | (refine CallK.mk _ (hP) ?_; conv => whnf)
        | (refine CallK.mk _ (hF) ?_; conv => whnf)
        | (refine CallK.mk _ (hO) ?_; conv => whnf)
        | (refine CallK.mk _ (hW1) ?_; conv => whnf)
        | (refine CallK.mk _ (hW2) ?_; conv => whnf)
        | (refine CallK.mk _ (hq1) ?_; conv => whnf)
        | (refine CallK.mk _ (hq2) ?_; conv => whnf)
        | (exfalso; first | omega | contradiction))
      all_goals first | rfl | simp [retOf]
    | cons z r =>
      have hLR := hLR (by simp) hin hln
      rw [if_neg (by simp)] at hF hO
      rw [show (longS (List.take 1 (z :: r))).1 = z.1 from rfl] at hF
      have hsl' : ((z :: r).map wD).length = r.length + 1 := by simp
      generalize hz : longS (z :: r) = y at *
      refine ev_of_awp tysOk mixed (fn := Try.f12) Try.func12 rfl rfl rfl ?_
      conv => whnf
      repeat' (first
        | ((refine PickE.map 0 (m := z) rfl (by omega) ?_); conv => whnf)
        | ((with_reducible refine Split.of_true ?_); conv => whnf)
        | ((with_reducible refine Split.of_false ?_); conv => whnf)
        | ((with_reducible refine Split.neg ?_))
        | ((with_reducible refine Split.is_true ?_ ?_); decide; conv => whnf)
        | ((with_reducible refine Split.is_false ?_ ?_); decide; conv => whnf)
        | ((with_reducible refine Split.nez (fun _ => ?_) (fun _ => ?_)) <;> conv => whnf)
        | ((with_reducible refine Split.eqz (fun _ => ?_) (fun _ => ?_)) <;> conv => whnf)
        | ((with_reducible refine Split.and ?_))
        | ((with_reducible refine Split.or ?_))
        | ((with_reducible refine Split.streq (fun _ => ?_) (fun _ => ?_)) <;> conv => whnf)
        | ((with_reducible refine Split.dec (fun _ => ?_) (fun _ => ?_)) <;> conv => whnf)
        | ((with_reducible refine Split.mk (fun _ => ?_) (fun _ => ?_)) <;> conv => whnf)
        | ((with_reducible refine Need.mk ?_ ?_); (first | omega | rfl | decide | (refine ⟨?_, ?_⟩ <;> simp <;> omega) | (simp; omega)); conv => whnf)
        | ((with_reducible refine Wr.quo ?_ ?_ ?_ ?_); omega; omega; omega; conv => whnf)
        | ((with_reducible refine Wr.inr ?_ ?_); (first | omega | (simp; omega)); conv => whnf)
        | ((with_reducible refine Wr.inu ?_ ?_); omega; conv => whnf)
        | (refine CallK.mk _ (ev_awake) ?_; conv => whnf)
        | (refine CallK.mk _ (hL) ?_; conv => whnf)
        | (refine CallK.mk _ (hR) ?_; conv => whnf)
        | (refine CallK.mk _ (hS) ?_; conv => whnf)
        | (refine CallK.mk _ (hP) ?_; conv => whnf)
        | (refine CallK.mk _ (hF) ?_; conv => whnf)
        | (refine CallK.mk _ (hO) ?_; conv => whnf)
        | (refine CallK.mk _ (hW1) ?_; conv => whnf)
        | (refine CallK.mk _ (hW2) ?_; conv => whnf)
        | (refine CallK.mk _ (hq1) ?_; conv => whnf)
        | (refine CallK.mk _ (hq2) ?_; conv => whnf)
        | (refine CallK.mk _ (hLR) ?_; conv => whnf)
        | (exfalso; first | omega | contradiction))
      all_goals first | rfl | simp [retOf]
  · rw [show srS v.gs v.x lv v.w = [] by rw [srS, if_neg h]] at hS hF hO
    rw [show psS v.gs v.x lv v.w = [] by rw [psS, if_neg h]] at hP
    rw [if_pos h] at hF hO
    refine ev_of_awp tysOk mixed (fn := Try.f12) Try.func12 rfl rfl rfl ?_
    conv => whnf
    repeat' (first
      | ((with_reducible refine Split.of_true ?_); conv => whnf)
      | ((with_reducible refine Split.of_false ?_); conv => whnf)
      | ((with_reducible refine Split.neg ?_))
      | ((with_reducible refine Split.is_true ?_ ?_); decide; conv => whnf)
      | ((with_reducible refine Split.is_false ?_ ?_); decide; conv => whnf)
      | ((with_reducible refine Split.nez (fun _ => ?_) (fun _ => ?_)) <;> conv => whnf)
      | ((with_reducible refine Split.eqz (fun _ => ?_) (fun _ => ?_)) <;> conv => whnf)
      | ((with_reducible refine Split.and ?_))
      | ((with_reducible refine Split.or ?_))
      | ((with_reducible refine Split.streq (fun _ => ?_) (fun _ => ?_)) <;> conv => whnf)
      | ((with_reducible refine Split.dec (fun _ => ?_) (fun _ => ?_)) <;> conv => whnf)
      | ((with_reducible refine Split.mk (fun _ => ?_) (fun _ => ?_)) <;> conv => whnf)
      | ((with_reducible refine Need.mk ?_ ?_); (first | omega | rfl | decide | (refine ⟨?_, ?_⟩ <;> simp <;> omega) | (simp; omega)); conv => whnf)
      | ((with_reducible refine Wr.quo ?_ ?_ ?_ ?_); omega; omega; omega; conv => whnf)
      | ((with_reducible refine Wr.inr ?_ ?_); (first | omega | (simp; omega)); conv => whnf)
      | ((with_reducible refine Wr.inu ?_ ?_); omega; conv => whnf)
      | (refine CallK.mk _ (ev_awake) ?_; conv => whnf)
      | (refine CallK.mk _ (hL) ?_; conv => whnf)
      | (refine CallK.mk _ (hR) ?_; conv => whnf)
      | (refine CallK.mk _ (hS) ?_; conv => whnf)
      | (refine CallK.mk _ (hP) ?_; conv => whnf)
      | (refine CallK.mk _ (hF) ?_; conv => whnf)
      | (refine CallK.mk _ (hO) ?_; conv => whnf)
      | (exfalso; first | omega | contradiction))
    all_goals first | rfl | simp [retOf]
end Go.Proofs.Try
