/- Texts SdO SdZ SdR SdN SdU SdV SdY LyM SdF SdFb SdS, joined; what is not needed is left out. -/
import Derived.Test.YtpbhikmlcaddmaaGreatMpd
import Derived.Test.YtpbhikmlcaddmaaGreatMgI
import Derived.Test.YtpbhikmlcaddmaaGreatProg
import Derived.Shelf.Lays
section
namespace Go.Proofs.Tryz
open Go Go.Vm Go.Sort
set_option maxRecDepth 20000
set_option maxHeartbeats 4000000
/-! Sheets by numbers; kept soundings. -/
def byN (l : List Sg) : List (D × D) := l.map fun s => (iD s.n, sgD s)
theorem mget_byN (k : Int) : ∀ l : List Sg, NoTwo l → mget (byN l) (iD k) = (l.find? fun s => s.n == k).map sgD
  | [], _ => rfl
  | a :: r, hu => by
    have ih := mget_byN k r (List.pairwise_cons.1 hu).2
    simp only [byN, List.map_cons] at ih ⊢
    rw [mget, ih, List.find?_cons]
    by_cases h : a.n = k
    · simp [keyEq, iD, h]
    · have h2 : (a.n == k) = false := by simpa using h
      simp [keyEq, iD, Ne.symm h, h2]
theorem byN_snoc {l : List Sg} {i : Nat} {g : Sg} (hu : NoTwo l) (hg : l[i]? = some g) : mput (byN (l.take i)) (iD g.n) (sgD g) = byN (l.take (i + 1)) := by
  have hu1 : NoTwo (l.take i ++ [g]) := by rw [← take_snoc hg]; exact hu.sublist (List.take_sublist _ _)
  have h0 : mget (byN (l.take i)) (iD g.n) = none := by
    rw [mget_byN _ _ (List.pairwise_append.1 hu1).1]
    have : (l.take i).find? (fun s => s.n == g.n) = none := by
      rw [List.find?_eq_none]
      intro x hx
      have := (List.pairwise_append.1 hu1).2.2 x hx g (by simp)
      simpa using this
    rw [this]; rfl
  rw [mput_new h0, take_snoc hg]
  simp [byN]
theorem xv_byNumber (l : List Sg) (hu : NoTwo l) (hl : l.length ≤ 1000000) : EvX Tryz.prog 33 [.d (.sl 5 (l.map sgD))] [] (.mp 9) [(9, .map 3 41 (.int .i64) (byN l))] := by
  have hlen : (l.map sgD).length = l.length := List.length_map _
  refine evx_of_awp tysOk mixed (fn := Tryz.f33) Tryz.func33 rfl rfl rfl ?_
  conv => whnf
  repeat' (first
    | ((with_reducible refine Split.of_true ?_); conv => whnf)
    | ((with_reducible refine Split.of_false ?_); conv => whnf)
    | ((with_reducible refine Split.neg ?_))
    | ((with_reducible refine Split.is_true ?_ ?_); decide; conv => whnf)
    | ((with_reducible refine Split.is_false ?_ ?_); decide; conv => whnf)
    | ((with_reducible refine Split.nez (fun _ => ?_) (fun _ => ?_)) <;> conv => whnf)
    | ((with_reducible refine Split.eqz (fun _ => ?_) (fun _ => ?_)) <;> conv => whnf)
    | ((with_reducible refine Split.and ?_))
    | ((with_reducible refine Split.or ?_))
    | ((with_reducible refine Split.streq (fun _ => ?_) (fun _ => ?_)) <;> conv => whnf)
    | ((with_reducible refine Split.dec (fun _ => ?_) (fun _ => ?_)) <;> conv => whnf)
    | ((with_reducible refine Split.mk (fun _ => ?_) (fun _ => ?_)) <;> conv => whnf)
    | ((with_reducible refine NilK.mk (fun _ => ?_) ?_) <;> conv => whnf)
    | ((with_reducible refine AltK.l ?_); (conv => whnf); (with_reducible refine Need.mk ?_ ?_); (first | omega | (refine ⟨?_, ?_⟩ <;> simp <;> omega) | (simp; omega)); conv => whnf)
    | ((with_reducible refine Need.mk ?_ ?_); (first | omega | rfl | decide | (refine ⟨?_, ?_⟩ <;> simp <;> omega) | (simp; omega)); conv => whnf)
    | ((with_reducible refine Wr.quo ?_ ?_ ?_ ?_); omega; omega; omega; conv => whnf)
    | ((with_reducible refine Wr.inr ?_ ?_); (first | omega | (simp; omega)); conv => whnf)
    | ((with_reducible refine Wr.inu ?_ ?_); omega; conv => whnf)
    | (exfalso; first | omega | contradiction))
  refine LoopK.o2 (fun i : Nat => i ≤ l.length) (fun i => [(9, .d (.int .i64 i))]) (fun i => [(6, .map 3 41 (.int .i64) (byN (l.take i)))]) (fun i => l.length - i) 0 (by simp) (by refine ⟨?_, ?_, rfl⟩ <;> (repeat' (first | exact True.intro | exact rfl | refine ⟨?_, ?_⟩ | (intro h; cases h; done) | (intro h; exact h) | exact map_snoc | (refine own_congr ?_; simp; done) | (refine int_congr ?_; (first | omega | (simp; omega))) | (simp; done)))) ?_
  rintro i hi
  have hnx : (i : Int) < l.length → ∃ m, l[i]? = some m := fun h => some_of_lt (by omega)
  conv => whnf
  repeat' (first
    | ((with_reducible refine Split.of_true ?_); conv => whnf)
    | ((with_reducible refine Split.of_false ?_); conv => whnf)
    | ((with_reducible refine Split.neg ?_))
    | ((with_reducible refine Split.is_true ?_ ?_); decide; conv => whnf)
    | ((with_reducible refine Split.is_false ?_ ?_); decide; conv => whnf)
    | ((with_reducible refine Split.nez (fun _ => ?_) (fun _ => ?_)) <;> conv => whnf)
    | ((with_reducible refine Split.eqz (fun _ => ?_) (fun _ => ?_)) <;> conv => whnf)
    | ((with_reducible refine Split.and ?_))
    | ((with_reducible refine Split.or ?_))
    | ((with_reducible refine Split.streq (fun _ => ?_) (fun _ => ?_)) <;> conv => whnf)
    | ((with_reducible refine Split.dec (fun _ => ?_) (fun _ => ?_)) <;> conv => whnf)
    | ((with_reducible refine Split.mk (fun _ => ?_) (fun _ => ?_)) <;> conv => whnf)
    | ((with_reducible refine NilK.mk (fun _ => ?_) ?_) <;> conv => whnf)
    | ((with_reducible refine AltK.l ?_); (conv => whnf); (with_reducible refine Need.mk ?_ ?_); (first | omega | (refine ⟨?_, ?_⟩ <;> simp <;> omega) | (simp; omega)); conv => whnf)
    | ((with_reducible refine Need.mk ?_ ?_); (first | omega | rfl | decide | (refine ⟨?_, ?_⟩ <;> simp <;> omega) | (simp; omega)); conv => whnf)
    | ((with_reducible refine Wr.quo ?_ ?_ ?_ ?_); omega; omega; omega; conv => whnf)
    | ((with_reducible refine Wr.inr ?_ ?_); (first | omega | (simp; omega)); conv => whnf)
    | ((with_reducible refine Wr.inu ?_ ?_); omega; conv => whnf)
    | (exfalso; first | omega | contradiction))
  · obtain ⟨s, hs⟩ := hnx (by omega)
    have hmp1 := byN_snoc hu hs
    rw [sgD] at hmp1
    conv => whnf
    repeat' (first
      | ((refine PickE.map i hs (by omega) ?_); conv => whnf)
      | ((with_reducible refine Split.of_true ?_); conv => whnf)
      | ((with_reducible refine Split.of_false ?_); conv => whnf)
      | ((with_reducible refine Split.neg ?_))
      | ((with_reducible refine Split.is_true ?_ ?_); decide; conv => whnf)
      | ((with_reducible refine Split.is_false ?_ ?_); decide; conv => whnf)
      | ((with_reducible refine Split.nez (fun _ => ?_) (fun _ => ?_)) <;> conv => whnf)
      | ((with_reducible refine Split.eqz (fun _ => ?_) (fun _ => ?_)) <;> conv => whnf)
      | ((with_reducible refine Split.and ?_))
      | ((with_reducible refine Split.or ?_))
      | ((with_reducible refine Split.streq (fun _ => ?_) (fun _ => ?_)) <;> conv => whnf)
      | ((with_reducible refine Split.dec (fun _ => ?_) (fun _ => ?_)) <;> conv => whnf)
      | ((with_reducible refine Split.mk (fun _ => ?_) (fun _ => ?_)) <;> conv => whnf)
      | ((with_reducible refine NilK.mk (fun _ => ?_) ?_) <;> conv => whnf)
      | ((with_reducible refine AltK.l ?_); (conv => whnf); (with_reducible refine Need.mk ?_ ?_); (first | omega | (refine ⟨?_, ?_⟩ <;> simp <;> omega) | (simp; omega)); conv => whnf)
      | ((with_reducible refine Need.mk ?_ ?_); (first | omega | rfl | decide | (refine ⟨?_, ?_⟩ <;> simp <;> omega) | (simp; omega)); conv => whnf)
      | ((with_reducible refine Wr.quo ?_ ?_ ?_ ?_); omega; omega; omega; conv => whnf)
      | ((with_reducible refine Wr.inr ?_ ?_); (first | omega | (simp; omega)); conv => whnf)
      | ((with_reducible refine Wr.inu ?_ ?_); omega; conv => whnf)
      | (exfalso; first | omega | contradiction))
    exact Again.au (i + 1) (by omega) (by omega) (by refine ⟨?_, ?_, rfl⟩ <;> (repeat' (first | exact True.intro | exact rfl | refine ⟨?_, ?_⟩ | (intro h; cases h; done) | (intro h; exact h) | exact map_snoc | (refine own_congr ?_; simp; done) | (refine int_congr ?_; (first | omega | (simp; omega))) | (simp; done) | exact hmp1 | ((first | refine own_congr ?_ | refine int_congr ?_ | skip); simp [D.cells]; done) | ((first | refine own_congr ?_ | refine int_congr ?_); simp [D.cells]; omega) | (show @Eq (List Go.Vm.D) _ []; simp [D.cells]; done) | (simp [D.cells, D.cells]; done))))
  · rw [List.take_of_length_le (by omega)]
    exact ⟨⟨[(9, some 6)], (by refine ⟨?_, ?_, rfl⟩ <;> (repeat' (first | exact True.intro | exact rfl | refine ⟨?_, ?_⟩ | (intro h; cases h; done) | (intro h; exact h) | exact map_snoc | (refine own_congr ?_; simp; done) | (refine int_congr ?_; (first | omega | (simp; omega))) | (simp; done))))⟩, rfl⟩
def kpGo (l : List Sg) : List Int → List Int → Int
  | _, [] => 0
  | o, n :: r => if (l.any fun s => s.n == n) = false then 6 else if (o.any fun m => m == n) = true then 5 else kpGo l (o ++ [n]) r
theorem kpGo_at {l : List Sg} {k : List Int} {i : Nat} {n : Int} (h : k[i]? = some n) : kpGo l (k.take i) (k.drop i) = if (l.any fun s => s.n == n) = false then 6 else if ((k.take i).any fun m => m == n) = true then 5 else kpGo l (k.take (i + 1)) (k.drop (i + 1)) := by
  rw [drop_of h, kpGo, take_snoc h]
def keepS (l : List Sg) (k : List Int) : List Sg := l.filter fun s => k.any fun m => m == s.n
def keepRes (l : List Sg) (k : List Int) : List Sg × Int := if chkErr sgB Sg.n l ≠ 0 then ([], chkErr sgB Sg.n l) else if kpGo l [] k ≠ 0 then ([], kpGo l [] k) else (keepS l k, 0)
def sgsE (x : List Sg × Int) : D := .tup [.sl 5 (x.1.map sgD), .int .i64 x.2]
theorem xv_Keep1 (s : Sg) (k : List Int) : EvX Tryz.prog 35 [.d (sgD s), .ptr 1001 0] [(1002, .map 3 4 (.int .i64) (seenD id k)), (1001, .var [.mp 1002] false)] (.d (.bool (!(k.any fun n => n == s.n)))) [(1002, .map 3 4 (.int .i64) (seenD id k)), (1001, .var [.mp 1002] false)] := by
  have hm := mget_seen id s.n k
  refine evx_of_awp tysOk mixed (fn := Tryz.f35) Tryz.func35 rfl rfl rfl ?_
  conv => whnf
  repeat' (first
    | ((with_reducible refine Split.of_true ?_); conv => whnf)
    | ((with_reducible refine Split.of_false ?_); conv => whnf)
    | ((with_reducible refine Split.neg ?_))
    | ((with_reducible refine Split.is_true ?_ ?_); decide; conv => whnf)
    | ((with_reducible refine Split.is_false ?_ ?_); decide; conv => whnf)
    | ((with_reducible refine Split.nez (fun _ => ?_) (fun _ => ?_)) <;> conv => whnf)
    | ((with_reducible refine Split.eqz (fun _ => ?_) (fun _ => ?_)) <;> conv => whnf)
    | ((with_reducible refine Split.and ?_))
    | ((with_reducible refine Split.or ?_))
    | ((with_reducible refine Split.streq (fun _ => ?_) (fun _ => ?_)) <;> conv => whnf)
    | ((with_reducible refine Split.dec (fun _ => ?_) (fun _ => ?_)) <;> conv => whnf)
    | ((with_reducible refine Split.mk (fun _ => ?_) (fun _ => ?_)) <;> conv => whnf)
    | ((with_reducible refine NilK.mk (fun _ => ?_) ?_) <;> conv => whnf)
    | ((with_reducible refine AltK.l ?_); (conv => whnf); (with_reducible refine Need.mk ?_ ?_); (first | omega | (refine ⟨?_, ?_⟩ <;> simp <;> omega) | (simp; omega)); conv => whnf)
    | ((with_reducible refine Need.mk ?_ ?_); (first | omega | rfl | decide | (refine ⟨?_, ?_⟩ <;> simp <;> omega) | (simp; omega)); conv => whnf)
    | ((with_reducible refine Wr.quo ?_ ?_ ?_ ?_); omega; omega; omega; conv => whnf)
    | ((with_reducible refine Wr.inr ?_ ?_); (first | omega | (simp; omega)); conv => whnf)
    | ((with_reducible refine Wr.inu ?_ ?_); omega; conv => whnf)
    | (exfalso; first | omega | contradiction))
  refine LookK.mk (fun v hv => ?_) (fun hv => ?_)
  · rw [hm] at hv
    split at hv
    · rename_i h1
      cases hv
      conv => whnf
      repeat' (first
        | ((with_reducible refine Split.of_true ?_); conv => whnf)
        | ((with_reducible refine Split.of_false ?_); conv => whnf)
        | ((with_reducible refine Split.neg ?_))
        | ((with_reducible refine Split.is_true ?_ ?_); decide; conv => whnf)
        | ((with_reducible refine Split.is_false ?_ ?_); decide; conv => whnf)
        | ((with_reducible refine Split.nez (fun _ => ?_) (fun _ => ?_)) <;> conv => whnf)
        | ((with_reducible refine Split.eqz (fun _ => ?_) (fun _ => ?_)) <;> conv => whnf)
        | ((with_reducible refine Split.and ?_))
        | ((with_reducible refine Split.or ?_))
        | ((with_reducible refine Split.streq (fun _ => ?_) (fun _ => ?_)) <;> conv => whnf)
        | ((with_reducible refine Split.dec (fun _ => ?_) (fun _ => ?_)) <;> conv => whnf)
        | ((with_reducible refine Split.mk (fun _ => ?_) (fun _ => ?_)) <;> conv => whnf)
        | ((with_reducible refine NilK.mk (fun _ => ?_) ?_) <;> conv => whnf)
        | ((with_reducible refine AltK.l ?_); (conv => whnf); (with_reducible refine Need.mk ?_ ?_); (first | omega | (refine ⟨?_, ?_⟩ <;> simp <;> omega) | (simp; omega)); conv => whnf)
        | ((with_reducible refine Need.mk ?_ ?_); (first | omega | rfl | decide | (refine ⟨?_, ?_⟩ <;> simp <;> omega) | (simp; omega)); conv => whnf)
        | ((with_reducible refine Wr.quo ?_ ?_ ?_ ?_); omega; omega; omega; conv => whnf)
        | ((with_reducible refine Wr.inr ?_ ?_); (first | omega | (simp; omega)); conv => whnf)
        | ((with_reducible refine Wr.inu ?_ ?_); omega; conv => whnf)
        | (exfalso; first | omega | contradiction))
      rw [show (k.any fun n => n == s.n) = true from h1]
      exact ⟨⟨[], (by refine ⟨?_, ?_, rfl⟩ <;> (repeat' (first | exact True.intro | exact rfl | refine ⟨?_, ?_⟩ | (intro h; cases h; done) | (intro h; exact h) | exact map_snoc | (refine own_congr ?_; simp; done) | (refine int_congr ?_; (first | omega | (simp; omega))) | (simp; done))))⟩, rfl⟩
    · cases hv
  · have h1 : (k.any fun n => n == s.n) = false := by
      rw [hm] at hv
      split at hv
      · cases hv
      · rename_i h1; rw [Bool.not_eq_true] at h1; exact h1
    conv => whnf
    repeat' (first
      | ((with_reducible refine Split.of_true ?_); conv => whnf)
      | ((with_reducible refine Split.of_false ?_); conv => whnf)
      | ((with_reducible refine Split.neg ?_))
      | ((with_reducible refine Split.is_true ?_ ?_); decide; conv => whnf)
      | ((with_reducible refine Split.is_false ?_ ?_); decide; conv => whnf)
      | ((with_reducible refine Split.nez (fun _ => ?_) (fun _ => ?_)) <;> conv => whnf)
      | ((with_reducible refine Split.eqz (fun _ => ?_) (fun _ => ?_)) <;> conv => whnf)
      | ((with_reducible refine Split.and ?_))
      | ((with_reducible refine Split.or ?_))
      | ((with_reducible refine Split.streq (fun _ => ?_) (fun _ => ?_)) <;> conv => whnf)
      | ((with_reducible refine Split.dec (fun _ => ?_) (fun _ => ?_)) <;> conv => whnf)
      | ((with_reducible refine Split.mk (fun _ => ?_) (fun _ => ?_)) <;> conv => whnf)
      | ((with_reducible refine NilK.mk (fun _ => ?_) ?_) <;> conv => whnf)
      | ((with_reducible refine AltK.l ?_); (conv => whnf); (with_reducible refine Need.mk ?_ ?_); (first | omega | (refine ⟨?_, ?_⟩ <;> simp <;> omega) | (simp; omega)); conv => whnf)
      | ((with_reducible refine Need.mk ?_ ?_); (first | omega | rfl | decide | (refine ⟨?_, ?_⟩ <;> simp <;> omega) | (simp; omega)); conv => whnf)
      | ((with_reducible refine Wr.quo ?_ ?_ ?_ ?_); omega; omega; omega; conv => whnf)
      | ((with_reducible refine Wr.inr ?_ ?_); (first | omega | (simp; omega)); conv => whnf)
      | ((with_reducible refine Wr.inu ?_ ?_); omega; conv => whnf)
      | (exfalso; first | omega | contradiction))
    rw [h1]
    exact ⟨⟨[], (by refine ⟨?_, ?_, rfl⟩ <;> (repeat' (first | exact True.intro | exact rfl | refine ⟨?_, ?_⟩ | (intro h; cases h; done) | (intro h; exact h) | exact map_snoc | (refine own_congr ?_; simp; done) | (refine int_congr ?_; (first | omega | (simp; omega))) | (simp; done))))⟩, rfl⟩
theorem find_any {l : List Sg} {n : Int} : ((l.find? fun s => s.n == n) = none) ↔ (l.any fun s => s.n == n) = false := by
  rw [List.find?_eq_none, List.any_eq_false]
theorem ev_Keep (l : List Sg) (k : List Int) (gs : List (Int × Int)) (hk : k.length ≤ 1000) : Ev Tryz.prog 10 [.sl 5 (l.map sgD), thD k gs] (sgsE (keepRes l k)) := by
  have hlen : (l.map sgD).length = l.length := List.length_map _
  have hlk : (k.map iD).length = k.length := List.length_map _
  have h1 := ev_CheckS l
  by_cases c0 : chkErr sgB Sg.n l = 0
  · rw [keepRes, if_neg (by simpa using c0)]
    rw [c0] at h1
    obtain ⟨hl5, hall, hu⟩ := chk_zero c0
    refine ev_of_awp tysOk mixed (fn := Tryz.f10) Tryz.func10 rfl rfl rfl ?_
    have h2 := EvX.newM (xs := [.sl 5 (l.map sgD)]) (xv_byNumber l hu (by omega)) 19
    conv => whnf
    repeat' (first
      | ((with_reducible refine Split.of_true ?_); conv => whnf)
      | ((with_reducible refine Split.of_false ?_); conv => whnf)
      | ((with_reducible refine Split.neg ?_))
      | ((with_reducible refine Split.is_true ?_ ?_); decide; conv => whnf)
      | ((with_reducible refine Split.is_false ?_ ?_); decide; conv => whnf)
      | ((with_reducible refine Split.nez (fun _ => ?_) (fun _ => ?_)) <;> conv => whnf)
      | ((with_reducible refine Split.eqz (fun _ => ?_) (fun _ => ?_)) <;> conv => whnf)
      | ((with_reducible refine Split.and ?_))
      | ((with_reducible refine Split.or ?_))
      | ((with_reducible refine Split.streq (fun _ => ?_) (fun _ => ?_)) <;> conv => whnf)
      | ((with_reducible refine Split.dec (fun _ => ?_) (fun _ => ?_)) <;> conv => whnf)
      | ((with_reducible refine Split.mk (fun _ => ?_) (fun _ => ?_)) <;> conv => whnf)
      | ((with_reducible refine NilK.mk (fun _ => ?_) ?_) <;> conv => whnf)
      | ((with_reducible refine AltK.l ?_); (conv => whnf); (with_reducible refine Need.mk ?_ ?_); (first | omega | (refine ⟨?_, ?_⟩ <;> simp <;> omega) | (simp; omega)); conv => whnf)
      | ((with_reducible refine Need.mk ?_ ?_); (first | omega | rfl | decide | (refine ⟨?_, ?_⟩ <;> simp <;> omega) | (simp; omega)); conv => whnf)
      | ((with_reducible refine Wr.quo ?_ ?_ ?_ ?_); omega; omega; omega; conv => whnf)
      | ((with_reducible refine Wr.inr ?_ ?_); (first | omega | (simp; omega)); conv => whnf)
      | ((with_reducible refine Wr.inu ?_ ?_); omega; conv => whnf)
      | ((with_reducible refine AltK.r ?_); (conv => whnf); (first | (refine CallX.mk _ _ (h2) rfl ?_)); conv => whnf)
      | ((with_reducible refine AltK.l ?_); (conv => whnf); (first | (refine CallK.mk _ (h1) ?_)); conv => whnf)
      | (exfalso; first | omega | contradiction))
    have e0 : kpGo l [] k = kpGo l (k.take 0) (k.drop 0) := rfl
    rw [e0]
    generalize hkk : kpGo l (k.take 0) (k.drop 0) = kk
    refine LoopK.o2 (fun i : Nat => i ≤ k.length ∧ kpGo l (k.take i) (k.drop i) = kk) (fun i => [(24, .d (.int .i64 i))]) (fun i => [(20, .map 3 4 (.int .i64) (seenD id (k.take i)))]) (fun i => k.length - i) 0 ⟨by simp, hkk⟩ (by refine ⟨?_, ?_, rfl⟩ <;> (repeat' (first | exact True.intro | exact rfl | refine ⟨?_, ?_⟩ | (intro h; cases h; done) | (intro h; exact h) | exact map_snoc | (refine own_congr ?_; simp; done) | (refine int_congr ?_; (first | omega | (simp; omega))) | (simp; done)))) ?_
    rintro i ⟨hi, hp⟩
    have hnx : (i : Int) < k.length → ∃ m, k[i]? = some m := fun h => some_of_lt (by omega)
    conv => whnf
    repeat' (first
      | ((with_reducible refine Split.of_true ?_); conv => whnf)
      | ((with_reducible refine Split.of_false ?_); conv => whnf)
      | ((with_reducible refine Split.neg ?_))
      | ((with_reducible refine Split.is_true ?_ ?_); decide; conv => whnf)
      | ((with_reducible refine Split.is_false ?_ ?_); decide; conv => whnf)
      | ((with_reducible refine Split.nez (fun _ => ?_) (fun _ => ?_)) <;> conv => whnf)
      | ((with_reducible refine Split.eqz (fun _ => ?_) (fun _ => ?_)) <;> conv => whnf)
      | ((with_reducible refine Split.and ?_))
      | ((with_reducible refine Split.or ?_))
      | ((with_reducible refine Split.streq (fun _ => ?_) (fun _ => ?_)) <;> conv => whnf)
      | ((with_reducible refine Split.dec (fun _ => ?_) (fun _ => ?_)) <;> conv => whnf)
      | ((with_reducible refine Split.mk (fun _ => ?_) (fun _ => ?_)) <;> conv => whnf)
      | ((with_reducible refine NilK.mk (fun _ => ?_) ?_) <;> conv => whnf)
      | ((with_reducible refine AltK.l ?_); (conv => whnf); (with_reducible refine Need.mk ?_ ?_); (first | omega | (refine ⟨?_, ?_⟩ <;> simp <;> omega) | (simp; omega)); conv => whnf)
      | ((with_reducible refine Need.mk ?_ ?_); (first | omega | rfl | decide | (refine ⟨?_, ?_⟩ <;> simp <;> omega) | (simp; omega)); conv => whnf)
      | ((with_reducible refine Wr.quo ?_ ?_ ?_ ?_); omega; omega; omega; conv => whnf)
      | ((with_reducible refine Wr.inr ?_ ?_); (first | omega | (simp; omega)); conv => whnf)
      | ((with_reducible refine Wr.inu ?_ ?_); omega; conv => whnf)
      | (exfalso; first | omega | contradiction))
    · obtain ⟨n, hn⟩ := hnx (by omega)
      have hk1 := hp.symm.trans (kpGo_at hn)
      conv => whnf
      repeat' (first
        | ((refine PickE.map i hn (by omega) ?_); conv => whnf)
        | ((with_reducible refine Split.of_true ?_); conv => whnf)
        | ((with_reducible refine Split.of_false ?_); conv => whnf)
        | ((with_reducible refine Split.neg ?_))
        | ((with_reducible refine Split.is_true ?_ ?_); decide; conv => whnf)
        | ((with_reducible refine Split.is_false ?_ ?_); decide; conv => whnf)
        | ((with_reducible refine Split.nez (fun _ => ?_) (fun _ => ?_)) <;> conv => whnf)
        | ((with_reducible refine Split.eqz (fun _ => ?_) (fun _ => ?_)) <;> conv => whnf)
        | ((with_reducible refine Split.and ?_))
        | ((with_reducible refine Split.or ?_))
        | ((with_reducible refine Split.streq (fun _ => ?_) (fun _ => ?_)) <;> conv => whnf)
        | ((with_reducible refine Split.dec (fun _ => ?_) (fun _ => ?_)) <;> conv => whnf)
        | ((with_reducible refine Split.mk (fun _ => ?_) (fun _ => ?_)) <;> conv => whnf)
        | ((with_reducible refine NilK.mk (fun _ => ?_) ?_) <;> conv => whnf)
        | ((with_reducible refine AltK.l ?_); (conv => whnf); (with_reducible refine Need.mk ?_ ?_); (first | omega | (refine ⟨?_, ?_⟩ <;> simp <;> omega) | (simp; omega)); conv => whnf)
        | ((with_reducible refine Need.mk ?_ ?_); (first | omega | rfl | decide | (refine ⟨?_, ?_⟩ <;> simp <;> omega) | (simp; omega)); conv => whnf)
        | ((with_reducible refine Wr.quo ?_ ?_ ?_ ?_); omega; omega; omega; conv => whnf)
        | ((with_reducible refine Wr.inr ?_ ?_); (first | omega | (simp; omega)); conv => whnf)
        | ((with_reducible refine Wr.inu ?_ ?_); omega; conv => whnf)
        | (exfalso; first | omega | contradiction))
      refine LookK.mk (fun v hv => ?_) (fun hv => ?_)
      · rw [mget_byN _ _ hu, Option.map_eq_some_iff] at hv
        obtain ⟨s, hs, rfl⟩ := hv
        have hany : ¬ (l.any fun s => s.n == n) = false := by
          intro h; rw [find_any.2 h] at hs; cases hs
        rw [if_neg hany] at hk1
        have hm := mget_seen id n (k.take i)
        conv => whnf
        repeat' (first
          | ((with_reducible refine Split.of_true ?_); conv => whnf)
          | ((with_reducible refine Split.of_false ?_); conv => whnf)
          | ((with_reducible refine Split.neg ?_))
          | ((with_reducible refine Split.is_true ?_ ?_); decide; conv => whnf)
          | ((with_reducible refine Split.is_false ?_ ?_); decide; conv => whnf)
          | ((with_reducible refine Split.nez (fun _ => ?_) (fun _ => ?_)) <;> conv => whnf)
          | ((with_reducible refine Split.eqz (fun _ => ?_) (fun _ => ?_)) <;> conv => whnf)
          | ((with_reducible refine Split.and ?_))
          | ((with_reducible refine Split.or ?_))
          | ((with_reducible refine Split.streq (fun _ => ?_) (fun _ => ?_)) <;> conv => whnf)
          | ((with_reducible refine Split.dec (fun _ => ?_) (fun _ => ?_)) <;> conv => whnf)
          | ((with_reducible refine Split.mk (fun _ => ?_) (fun _ => ?_)) <;> conv => whnf)
          | ((with_reducible refine NilK.mk (fun _ => ?_) ?_) <;> conv => whnf)
          | ((with_reducible refine AltK.l ?_); (conv => whnf); (with_reducible refine Need.mk ?_ ?_); (first | omega | (refine ⟨?_, ?_⟩ <;> simp <;> omega) | (simp; omega)); conv => whnf)
          | ((with_reducible refine Need.mk ?_ ?_); (first | omega | rfl | decide | (refine ⟨?_, ?_⟩ <;> simp <;> omega) | (simp; omega)); conv => whnf)
          | ((with_reducible refine Wr.quo ?_ ?_ ?_ ?_); omega; omega; omega; conv => whnf)
          | ((with_reducible refine Wr.inr ?_ ?_); (first | omega | (simp; omega)); conv => whnf)
          | ((with_reducible refine Wr.inu ?_ ?_); omega; conv => whnf)
          | (exfalso; first | omega | contradiction))
        refine LookK.mk (fun v hv => ?_) (fun hv => ?_)
        · rw [hm] at hv
          split at hv
          · rename_i h2
            cases hv
            rw [if_pos (show ((k.take i).any fun m => m == n) = true from h2)] at hk1
            conv => whnf
            repeat' (first
              | ((with_reducible refine Split.of_true ?_); conv => whnf)
              | ((with_reducible refine Split.of_false ?_); conv => whnf)
              | ((with_reducible refine Split.neg ?_))
              | ((with_reducible refine Split.is_true ?_ ?_); decide; conv => whnf)
              | ((with_reducible refine Split.is_false ?_ ?_); decide; conv => whnf)
              | ((with_reducible refine Split.nez (fun _ => ?_) (fun _ => ?_)) <;> conv => whnf)
              | ((with_reducible refine Split.eqz (fun _ => ?_) (fun _ => ?_)) <;> conv => whnf)
              | ((with_reducible refine Split.and ?_))
              | ((with_reducible refine Split.or ?_))
              | ((with_reducible refine Split.streq (fun _ => ?_) (fun _ => ?_)) <;> conv => whnf)
              | ((with_reducible refine Split.dec (fun _ => ?_) (fun _ => ?_)) <;> conv => whnf)
              | ((with_reducible refine Split.mk (fun _ => ?_) (fun _ => ?_)) <;> conv => whnf)
              | ((with_reducible refine NilK.mk (fun _ => ?_) ?_) <;> conv => whnf)
              | ((with_reducible refine AltK.l ?_); (conv => whnf); (with_reducible refine Need.mk ?_ ?_); (first | omega | (refine ⟨?_, ?_⟩ <;> simp <;> omega) | (simp; omega)); conv => whnf)
              | ((with_reducible refine Need.mk ?_ ?_); (first | omega | rfl | decide | (refine ⟨?_, ?_⟩ <;> simp <;> omega) | (simp; omega)); conv => whnf)
              | ((with_reducible refine Wr.quo ?_ ?_ ?_ ?_); omega; omega; omega; conv => whnf)
              | ((with_reducible refine Wr.inr ?_ ?_); (first | omega | (simp; omega)); conv => whnf)
              | ((with_reducible refine Wr.inu ?_ ?_); omega; conv => whnf)
              | (exfalso; first | omega | contradiction))
            rw [hk1, if_pos (by decide)]; rfl
          · cases hv
        · have h3 : ¬ ((k.take i).any fun m => m == n) = true := by
            intro h3; rw [hm, if_pos (show ((k.take i).any fun y => id y == n) = true from h3)] at hv; cases hv
          rw [if_neg h3] at hk1
          have hmp1 := seen_snoc (num := id) hn hv
          conv => whnf
          repeat' (first
            | ((with_reducible refine Split.of_true ?_); conv => whnf)
            | ((with_reducible refine Split.of_false ?_); conv => whnf)
            | ((with_reducible refine Split.neg ?_))
            | ((with_reducible refine Split.is_true ?_ ?_); decide; conv => whnf)
            | ((with_reducible refine Split.is_false ?_ ?_); decide; conv => whnf)
            | ((with_reducible refine Split.nez (fun _ => ?_) (fun _ => ?_)) <;> conv => whnf)
            | ((with_reducible refine Split.eqz (fun _ => ?_) (fun _ => ?_)) <;> conv => whnf)
            | ((with_reducible refine Split.and ?_))
            | ((with_reducible refine Split.or ?_))
            | ((with_reducible refine Split.streq (fun _ => ?_) (fun _ => ?_)) <;> conv => whnf)
            | ((with_reducible refine Split.dec (fun _ => ?_) (fun _ => ?_)) <;> conv => whnf)
            | ((with_reducible refine Split.mk (fun _ => ?_) (fun _ => ?_)) <;> conv => whnf)
            | ((with_reducible refine NilK.mk (fun _ => ?_) ?_) <;> conv => whnf)
            | ((with_reducible refine AltK.l ?_); (conv => whnf); (with_reducible refine Need.mk ?_ ?_); (first | omega | (refine ⟨?_, ?_⟩ <;> simp <;> omega) | (simp; omega)); conv => whnf)
            | ((with_reducible refine Need.mk ?_ ?_); (first | omega | rfl | decide | (refine ⟨?_, ?_⟩ <;> simp <;> omega) | (simp; omega)); conv => whnf)
            | ((with_reducible refine Wr.quo ?_ ?_ ?_ ?_); omega; omega; omega; conv => whnf)
            | ((with_reducible refine Wr.inr ?_ ?_); (first | omega | (simp; omega)); conv => whnf)
            | ((with_reducible refine Wr.inu ?_ ?_); omega; conv => whnf)
            | (exfalso; first | omega | contradiction))
          exact Again.au (i + 1) ⟨by omega, hk1.symm⟩ (by omega) (by refine ⟨?_, ?_, rfl⟩ <;> (repeat' (first | exact True.intro | exact rfl | refine ⟨?_, ?_⟩ | (intro h; cases h; done) | (intro h; exact h) | exact map_snoc | (refine own_congr ?_; simp; done) | (refine int_congr ?_; (first | omega | (simp; omega))) | (simp; done) | exact hmp1 | ((first | refine own_congr ?_ | refine int_congr ?_ | skip); simp [D.cells]; done) | ((first | refine own_congr ?_ | refine int_congr ?_); simp [D.cells]; omega) | (show @Eq (List Go.Vm.D) _ []; simp [D.cells]; done) | (simp [D.cells, D.cells]; done))))
      · rw [mget_byN _ _ hu, Option.map_eq_none_iff, find_any] at hv
        rw [if_pos hv] at hk1
        conv => whnf
        repeat' (first
          | ((with_reducible refine Split.of_true ?_); conv => whnf)
          | ((with_reducible refine Split.of_false ?_); conv => whnf)
          | ((with_reducible refine Split.neg ?_))
          | ((with_reducible refine Split.is_true ?_ ?_); decide; conv => whnf)
          | ((with_reducible refine Split.is_false ?_ ?_); decide; conv => whnf)
          | ((with_reducible refine Split.nez (fun _ => ?_) (fun _ => ?_)) <;> conv => whnf)
          | ((with_reducible refine Split.eqz (fun _ => ?_) (fun _ => ?_)) <;> conv => whnf)
          | ((with_reducible refine Split.and ?_))
          | ((with_reducible refine Split.or ?_))
          | ((with_reducible refine Split.streq (fun _ => ?_) (fun _ => ?_)) <;> conv => whnf)
          | ((with_reducible refine Split.dec (fun _ => ?_) (fun _ => ?_)) <;> conv => whnf)
          | ((with_reducible refine Split.mk (fun _ => ?_) (fun _ => ?_)) <;> conv => whnf)
          | ((with_reducible refine NilK.mk (fun _ => ?_) ?_) <;> conv => whnf)
          | ((with_reducible refine AltK.l ?_); (conv => whnf); (with_reducible refine Need.mk ?_ ?_); (first | omega | (refine ⟨?_, ?_⟩ <;> simp <;> omega) | (simp; omega)); conv => whnf)
          | ((with_reducible refine Need.mk ?_ ?_); (first | omega | rfl | decide | (refine ⟨?_, ?_⟩ <;> simp <;> omega) | (simp; omega)); conv => whnf)
          | ((with_reducible refine Wr.quo ?_ ?_ ?_ ?_); omega; omega; omega; conv => whnf)
          | ((with_reducible refine Wr.inr ?_ ?_); (first | omega | (simp; omega)); conv => whnf)
          | ((with_reducible refine Wr.inu ?_ ?_); omega; conv => whnf)
          | (exfalso; first | omega | contradiction))
        rw [hk1, if_pos (by decide)]; rfl
    · have ei : i = k.length := by omega
      subst ei
      rw [List.drop_length, kpGo] at hp
      subst hp
      rw [List.take_length, if_neg (by decide)]
      clear hkk e0
      by_cases hn : l = []
      · subst hn
        have h4 := (xv_delSmN 35 3 4 (.int .i64) (seenD id k)).rn [(1001, 8), (1002, 20)] rfl
        conv => whnf
        repeat' (first
          | ((with_reducible refine Split.of_true ?_); conv => whnf)
          | ((with_reducible refine Split.of_false ?_); conv => whnf)
          | ((with_reducible refine Split.neg ?_))
          | ((with_reducible refine Split.is_true ?_ ?_); decide; conv => whnf)
          | ((with_reducible refine Split.is_false ?_ ?_); decide; conv => whnf)
          | ((with_reducible refine Split.nez (fun _ => ?_) (fun _ => ?_)) <;> conv => whnf)
          | ((with_reducible refine Split.eqz (fun _ => ?_) (fun _ => ?_)) <;> conv => whnf)
          | ((with_reducible refine Split.and ?_))
          | ((with_reducible refine Split.or ?_))
          | ((with_reducible refine Split.streq (fun _ => ?_) (fun _ => ?_)) <;> conv => whnf)
          | ((with_reducible refine Split.dec (fun _ => ?_) (fun _ => ?_)) <;> conv => whnf)
          | ((with_reducible refine Split.mk (fun _ => ?_) (fun _ => ?_)) <;> conv => whnf)
          | ((with_reducible refine NilK.mk (fun _ => ?_) ?_) <;> conv => whnf)
          | ((with_reducible refine AltK.l ?_); (conv => whnf); (with_reducible refine Need.mk ?_ ?_); (first | omega | (refine ⟨?_, ?_⟩ <;> simp <;> omega) | (simp; omega)); conv => whnf)
          | ((with_reducible refine Need.mk ?_ ?_); (first | omega | rfl | decide | (refine ⟨?_, ?_⟩ <;> simp <;> omega) | (simp; omega)); conv => whnf)
          | ((with_reducible refine Wr.quo ?_ ?_ ?_ ?_); omega; omega; omega; conv => whnf)
          | ((with_reducible refine Wr.inr ?_ ?_); (first | omega | (simp; omega)); conv => whnf)
          | ((with_reducible refine Wr.inu ?_ ?_); omega; conv => whnf)
          | ((with_reducible refine AltK.r ?_); (conv => whnf); (first | (refine CallX.mk _ _ (h4) rfl ?_)); conv => whnf)
          | ((with_reducible refine AltK.l ?_); (conv => whnf); (first | (refine CallK.mk _ (ev_cloneS [] (by simp)) ?_)); conv => whnf)
          | (exfalso; first | omega | contradiction))
        rfl
      · have h3 := EvX.new1 (xs := [.sl 5 (l.map sgD)]) (xv_cloneS l (by have := List.length_pos_iff.2 hn; omega)) 43
        have hf := fun s (_ : s ∈ l) => xv_Keep1 s k
        cases h0 : l.findIdx? fun g => !(k.any fun n => n == g.n) with
        | none =>
          have h4 := (xv_delSm0 l _ _ _ _ _ _ (by omega) hf h0).rn [(1000, 43), (1001, 8), (1002, 20)] rfl
          have e : keepS l k = l := by
            rw [keepS, List.filter_eq_self]
            intro g hg
            have := List.findIdx?_eq_none_iff.1 h0 g hg
            simpa using this
          rw [e]
          conv => whnf
          repeat' (first
            | ((with_reducible refine Split.of_true ?_); conv => whnf)
            | ((with_reducible refine Split.of_false ?_); conv => whnf)
            | ((with_reducible refine Split.neg ?_))
            | ((with_reducible refine Split.is_true ?_ ?_); decide; conv => whnf)
            | ((with_reducible refine Split.is_false ?_ ?_); decide; conv => whnf)
            | ((with_reducible refine Split.nez (fun _ => ?_) (fun _ => ?_)) <;> conv => whnf)
            | ((with_reducible refine Split.eqz (fun _ => ?_) (fun _ => ?_)) <;> conv => whnf)
            | ((with_reducible refine Split.and ?_))
            | ((with_reducible refine Split.or ?_))
            | ((with_reducible refine Split.streq (fun _ => ?_) (fun _ => ?_)) <;> conv => whnf)
            | ((with_reducible refine Split.dec (fun _ => ?_) (fun _ => ?_)) <;> conv => whnf)
            | ((with_reducible refine Split.mk (fun _ => ?_) (fun _ => ?_)) <;> conv => whnf)
            | ((with_reducible refine NilK.mk (fun _ => ?_) ?_) <;> conv => whnf)
            | ((with_reducible refine AltK.l ?_); (conv => whnf); (with_reducible refine Need.mk ?_ ?_); (first | omega | (refine ⟨?_, ?_⟩ <;> simp <;> omega) | (simp; omega)); conv => whnf)
            | ((with_reducible refine Need.mk ?_ ?_); (first | omega | rfl | decide | (refine ⟨?_, ?_⟩ <;> simp <;> omega) | (simp; omega)); conv => whnf)
            | ((with_reducible refine Wr.quo ?_ ?_ ?_ ?_); omega; omega; omega; conv => whnf)
            | ((with_reducible refine Wr.inr ?_ ?_); (first | omega | (simp; omega)); conv => whnf)
            | ((with_reducible refine Wr.inu ?_ ?_); omega; conv => whnf)
            | ((with_reducible refine AltK.r ?_); (conv => whnf); (first | (refine CallX.mk _ _ (h3) rfl ?_) | (refine CallX.mk _ _ (h4) rfl ?_)); conv => whnf)
            | (exfalso; first | omega | contradiction))
          rfl
        | some i0 =>
          have h4 := (xv_delSm l _ _ _ _ _ _ (by omega) hf h0).rn [(1000, 43), (1001, 8), (1002, 20), (9, 45)] rfl
          simp only [Bool.not_not] at h4
          conv => whnf
          repeat' (first
            | ((with_reducible refine Split.of_true ?_); conv => whnf)
            | ((with_reducible refine Split.of_false ?_); conv => whnf)
            | ((with_reducible refine Split.neg ?_))
            | ((with_reducible refine Split.is_true ?_ ?_); decide; conv => whnf)
            | ((with_reducible refine Split.is_false ?_ ?_); decide; conv => whnf)
            | ((with_reducible refine Split.nez (fun _ => ?_) (fun _ => ?_)) <;> conv => whnf)
            | ((with_reducible refine Split.eqz (fun _ => ?_) (fun _ => ?_)) <;> conv => whnf)
            | ((with_reducible refine Split.and ?_))
            | ((with_reducible refine Split.or ?_))
            | ((with_reducible refine Split.streq (fun _ => ?_) (fun _ => ?_)) <;> conv => whnf)
            | ((with_reducible refine Split.dec (fun _ => ?_) (fun _ => ?_)) <;> conv => whnf)
            | ((with_reducible refine Split.mk (fun _ => ?_) (fun _ => ?_)) <;> conv => whnf)
            | ((with_reducible refine NilK.mk (fun _ => ?_) ?_) <;> conv => whnf)
            | ((with_reducible refine AltK.l ?_); (conv => whnf); (with_reducible refine Need.mk ?_ ?_); (first | omega | (refine ⟨?_, ?_⟩ <;> simp <;> omega) | (simp; omega)); conv => whnf)
            | ((with_reducible refine Need.mk ?_ ?_); (first | omega | rfl | decide | (refine ⟨?_, ?_⟩ <;> simp <;> omega) | (simp; omega)); conv => whnf)
            | ((with_reducible refine Wr.quo ?_ ?_ ?_ ?_); omega; omega; omega; conv => whnf)
            | ((with_reducible refine Wr.inr ?_ ?_); (first | omega | (simp; omega)); conv => whnf)
            | ((with_reducible refine Wr.inu ?_ ?_); omega; conv => whnf)
            | ((with_reducible refine AltK.r ?_); (conv => whnf); (first | (refine CallX.mk _ _ (h3) rfl ?_) | (refine CallX.mk _ _ (h4) rfl ?_)); conv => whnf)
            | (exfalso; first | omega | contradiction))
          rfl
  · rw [keepRes, if_pos c0]
    refine ev_of_awp tysOk mixed (fn := Tryz.f10) Tryz.func10 rfl rfl rfl ?_
    conv => whnf
    repeat' (first
      | ((with_reducible refine Split.of_true ?_); conv => whnf)
      | ((with_reducible refine Split.of_false ?_); conv => whnf)
      | ((with_reducible refine Split.neg ?_))
      | ((with_reducible refine Split.is_true ?_ ?_); decide; conv => whnf)
      | ((with_reducible refine Split.is_false ?_ ?_); decide; conv => whnf)
      | ((with_reducible refine Split.nez (fun _ => ?_) (fun _ => ?_)) <;> conv => whnf)
      | ((with_reducible refine Split.eqz (fun _ => ?_) (fun _ => ?_)) <;> conv => whnf)
      | ((with_reducible refine Split.and ?_))
      | ((with_reducible refine Split.or ?_))
      | ((with_reducible refine Split.streq (fun _ => ?_) (fun _ => ?_)) <;> conv => whnf)
      | ((with_reducible refine Split.dec (fun _ => ?_) (fun _ => ?_)) <;> conv => whnf)
      | ((with_reducible refine Split.mk (fun _ => ?_) (fun _ => ?_)) <;> conv => whnf)
      | ((with_reducible refine NilK.mk (fun _ => ?_) ?_) <;> conv => whnf)
      | ((with_reducible refine AltK.l ?_); (conv => whnf); (with_reducible refine Need.mk ?_ ?_); (first | omega | (refine ⟨?_, ?_⟩ <;> simp <;> omega) | (simp; omega)); conv => whnf)
      | ((with_reducible refine Need.mk ?_ ?_); (first | omega | rfl | decide | (refine ⟨?_, ?_⟩ <;> simp <;> omega) | (simp; omega)); conv => whnf)
      | ((with_reducible refine Wr.quo ?_ ?_ ?_ ?_); omega; omega; omega; conv => whnf)
      | ((with_reducible refine Wr.inr ?_ ?_); (first | omega | (simp; omega)); conv => whnf)
      | ((with_reducible refine Wr.inu ?_ ?_); omega; conv => whnf)
      | ((with_reducible refine AltK.l ?_); (conv => whnf); (first | (refine CallK.mk _ (h1) ?_)); conv => whnf)
      | (exfalso; first | omega | contradiction))
    all_goals simp_all [retOf, sgsE, iD]
end Go.Proofs.Tryz
end

section
/- Openings of typed arguments: raw soundings, soundings, lists of numbers, thinnings, grids. -/
namespace Go.Proofs.Tryz
open Go Go.Vm
def cSg : List Cs := [.int .i64, .int .i64, .int .i64, .int .i64, .int .i64]
theorem sg_of {d : D} (h : TyV (true, cSg) d) : ∃ r, d = sgD r := by
  obtain ⟨ds, rfl, hl, hc⟩ := agg_of h
  match ds, hl with
  | [a, b, c, e, f], _ =>
    obtain ⟨x0, rfl, -⟩ := int_of (hc 0 _ a rfl rfl)
    obtain ⟨x1, rfl, -⟩ := int_of (hc 1 _ b rfl rfl)
    obtain ⟨x2, rfl, -⟩ := int_of (hc 2 _ c rfl rfl)
    obtain ⟨x3, rfl, -⟩ := int_of (hc 3 _ e rfl rfl)
    obtain ⟨x4, rfl, -⟩ := int_of (hc 4 _ f rfl rfl)
    exact ⟨⟨x0, x1, x2, x3, x4⟩, rfl⟩
theorem sgs_of {d : D} (h : Ty (.sl true cSg) d) : ∃ l : List Sg, d = .sl 5 (l.map sgD) := by
  obtain ⟨es, rfl, he, -⟩ := sl_of h
  obtain ⟨l, rfl⟩ := map_of (fun d hd => sg_of hd) he
  exact ⟨l, rfl⟩
theorem ints_of {d : D} (h : Ty (.sl false [.int .i64]) d) : ∃ l : List Int, d = .sl 1 (l.map iD) := by
  obtain ⟨es, rfl, he, -⟩ := sl_of h
  obtain ⟨l, rfl⟩ := map_of (f := iD) (fun d hd => by
    obtain ⟨n, rfl, -⟩ := int_of (one_of hd)
    exact ⟨n, rfl⟩) he
  exact ⟨l, rfl⟩
end Go.Proofs.Tryz
end

section
namespace Go.Proofs.Tryz
open Go Go.Vm Go.Sort
set_option maxRecDepth 20000
set_option maxHeartbeats 4000000
/-! The reference's Keep; SoundingThins. -/
theorem keep_len (l : List Sg) (k : List Int) : (keepS l k).length ≤ l.length := List.length_filter_le _ _
theorem thin_len (l : List Sg) (r : Int) (h : chkErr sgB Sg.n l = 0) : (thinRes l r).1.length ≤ 500 ∧ (thinRes l r).2.1.length ≤ 500 := by
  obtain ⟨h5, _, _⟩ := chk_zero h
  rw [thinRes, if_neg (by simpa using h)]
  split
  · simp
  · have := thinO_len r (sortL cfThin l)
    rw [sortL_len] at this
    simp only [sortZ_len, sortL_len, List.length_map]
    omega
theorem thin_len' (l : List Sg) (r : Int) : (thinRes l r).1.length ≤ 500 ∧ (thinRes l r).2.1.length ≤ 500 := by
  by_cases h : chkErr sgB Sg.n l = 0
  · exact thin_len l r h
  · rw [thinRes, if_pos h]; simp
end Go.Proofs.Tryz
end

section
namespace Go.Proofs.Tryz
open Go Go.Vm Go.Sort
set_option maxRecDepth 20000
set_option maxHeartbeats 4000000
/-! Nearest soundings. -/
end Go.Proofs.Tryz
end

section
namespace Go.Proofs.Tryz
open Go Go.Vm Go.Sort
set_option maxRecDepth 20000
set_option maxHeartbeats 4000000
/-! The reference's nearest soundings: it takes the least one that is left, again and again. -/
end Go.Proofs.Tryz
end

section
namespace Go.Proofs.Tryz
open Go Go.Vm Go.Sort
set_option maxRecDepth 20000
set_option maxHeartbeats 4000000
/-! Near. -/
end Go.Proofs.Tryz
end

section
namespace Go.Proofs.Tryz
open Go Go.Vm Go.Sort
set_option maxRecDepth 20000
set_option maxHeartbeats 4000000
/-! Spikes. -/
end Go.Proofs.Tryz
end

section
/- A library function of the seat, laid (written by lay.sh). -/
open Go Go.Shelf
namespace Go.Proofs
def ly_LyM_ren : Shelf.Ren := ⟨fun | 212 => 102 | 263 => 124 | 264 => 125 | n => n, fun | 46 => 99 | 51 => 126 | 146 => 158 | 53 => 128 | 148 => 160 | n => n, fun | n => n⟩
theorem ly_LyM : Go.Proofs.Lays.n212 Tryz.prog ly_LyM_ren where
  mixed := by kernel_rfl
  f212 := Tryz.func102.trans (congrArg some (by kernel_rfl))
  f263 := Tryz.func124.trans (congrArg some (by kernel_rfl))
  f264 := Tryz.func125.trans (congrArg some (by kernel_rfl))
  t46 := Tryz.underlying99
  a46 := Tryz.isAgg99
  z46 := Tryz.sizeOf99
  v46 := Tryz.zeroValue99
  t51 := Tryz.underlying126
  a51 := Tryz.isAgg126
  z51 := Tryz.sizeOf126
  v51 := Tryz.zeroValue126
  t53 := Tryz.underlying128
  a53 := Tryz.isAgg128
  z53 := Tryz.sizeOf128
  v53 := Tryz.zeroValue128
  t146 := Tryz.underlying158
  a146 := Tryz.isAgg158
  z146 := Tryz.sizeOf158
  v146 := Tryz.zeroValue158
  t148 := Tryz.underlying160
  a148 := Tryz.isAgg160
  z148 := Tryz.sizeOf160
  v148 := Tryz.zeroValue160
end Go.Proofs
end

section
namespace Go.Proofs.Tryz
open Go Go.Vm Go.Sort
set_option maxRecDepth 20000
set_option maxHeartbeats 4000000
/-! Grids: cells, slices.Repeat. -/
theorem ev_MulU (x y : Int) (hx : 0 ≤ x ∧ x < 18446744073709551616) (hy : 0 ≤ y ∧ y < 18446744073709551616) (h : x * y < 18446744073709551616) : Ev Tryz.prog 102 [.int .u64 x, .int .u64 y] (.tup [.int .u64 0, .int .u64 (x * y)]) := Ev.mulU ly_LyM x y hx hy h
structure Gr where
  x : Int
  y : Int
  side : Int
  cols : Int
  rows : Int
  lv : List Int
def grD (g : Gr) : D := .agg [iD g.x, iD g.y, iD g.side, iD g.cols, iD g.rows, .sl 1 (g.lv.map iD)]
def frBad (g : Gr) : Bool := outsideB g.x (-1000000) 1000000 || outsideB g.y (-1000000) 1000000 || outsideB g.side 100 10000 || decide (g.cols < 1) || decide (g.rows < 1)
def frLarge (g : Gr) : Bool := decide (g.cols > 1024) || decide (g.rows > 1024) || decide (g.cols * g.rows > 1024)
def frErr (g : Gr) : Int := if frBad g = true then 2 else if frLarge g = true then 8 else 0
structure FrOk (g : Gr) : Prop where
  x : -1000000 ≤ g.x ∧ g.x ≤ 1000000
  y : -1000000 ≤ g.y ∧ g.y ≤ 1000000
  side : 100 ≤ g.side ∧ g.side ≤ 10000
  cols : 1 ≤ g.cols ∧ g.cols ≤ 1024
  rows : 1 ≤ g.rows ∧ g.rows ≤ 1024
  all : 1 ≤ g.cols * g.rows ∧ g.cols * g.rows ≤ 1024
theorem fr_ok {g : Gr} (h : frErr g = 0) : FrOk g := by
  unfold frErr at h
  split at h
  · cases h
  · rename_i h1
    split at h
    · cases h
    · rename_i h2
      simp only [frBad, frLarge, outsideB, Bool.not_eq_true, Bool.or_eq_false_iff, decide_eq_false_iff_not] at h1 h2
      refine ⟨by omega, by omega, by omega, by omega, by omega, ?_, by omega⟩
      have := Int.mul_le_mul (show 1 ≤ g.cols by omega) (show 1 ≤ g.rows by omega) (by omega) (by omega)
      omega
theorem ev_checkCells (g : Gr) : Ev Tryz.prog 58 [grD g] (iD (frErr g)) := by
  have h1 := ev_w2 g.x g.y (-1000000) 1000000
  have h2 := ev_w1 g.side 100 10000
  by_cases hc : 1 ≤ g.cols ∧ g.cols ≤ 1024 ∧ 1 ≤ g.rows ∧ g.rows ≤ 1024
  · have m := mul_bd (x := g.cols) (y := g.rows) (X := 1024) (Y := 1024) (by omega) (by omega)
    unfold frErr frBad frLarge
    generalize outsideB g.x (-1000000) 1000000 = b1 at *
    generalize outsideB g.y (-1000000) 1000000 = b2 at *
    generalize outsideB g.side 100 10000 = b3 at *
    cases b1 <;> cases b2 <;> cases b3
    all_goals
      refine ev_of_awp tysOk mixed (fn := Tryz.f58) Tryz.func58 rfl rfl rfl ?_
      conv => whnf
      repeat' (first
        | ((with_reducible refine Split.of_true ?_); conv => whnf)
        | ((with_reducible refine Split.of_false ?_); conv => whnf)
        | ((with_reducible refine Split.neg ?_))
        | ((with_reducible refine Split.is_true ?_ ?_); decide; conv => whnf)
        | ((with_reducible refine Split.is_false ?_ ?_); decide; conv => whnf)
        | ((with_reducible refine Split.nez (fun _ => ?_) (fun _ => ?_)) <;> conv => whnf)
        | ((with_reducible refine Split.eqz (fun _ => ?_) (fun _ => ?_)) <;> conv => whnf)
        | ((with_reducible refine Split.and ?_))
        | ((with_reducible refine Split.or ?_))
        | ((with_reducible refine Split.streq (fun _ => ?_) (fun _ => ?_)) <;> conv => whnf)
        | ((with_reducible refine Split.dec (fun _ => ?_) (fun _ => ?_)) <;> conv => whnf)
        | ((with_reducible refine Split.mk (fun _ => ?_) (fun _ => ?_)) <;> conv => whnf)
        | ((with_reducible refine NilK.mk (fun _ => ?_) ?_) <;> conv => whnf)
        | ((with_reducible refine AltK.l ?_); (conv => whnf); (with_reducible refine Need.mk ?_ ?_); (first | omega | (refine ⟨?_, ?_⟩ <;> simp <;> omega) | (simp; omega)); conv => whnf)
        | ((with_reducible refine Need.mk ?_ ?_); (first | omega | rfl | decide | (refine ⟨?_, ?_⟩ <;> simp <;> omega) | (simp; omega)); conv => whnf)
        | ((with_reducible refine Wr.quo ?_ ?_ ?_ ?_); omega; omega; omega; conv => whnf)
        | ((with_reducible refine Wr.inr ?_ ?_); (first | omega | (simp; omega)); conv => whnf)
        | ((with_reducible refine Wr.inu ?_ ?_); omega; conv => whnf)
        | ((with_reducible refine AltK.l ?_); (conv => whnf); (first | (refine CallK.mk _ (h1) ?_) | (refine CallK.mk _ (h2) ?_)); conv => whnf)
        | (exfalso; first | omega | contradiction))
      all_goals (simp_all [retOf, iD] <;> omega)
  · unfold frErr frBad frLarge
    generalize outsideB g.x (-1000000) 1000000 = b1 at *
    generalize outsideB g.y (-1000000) 1000000 = b2 at *
    generalize outsideB g.side 100 10000 = b3 at *
    cases b1 <;> cases b2 <;> cases b3
    all_goals
      refine ev_of_awp tysOk mixed (fn := Tryz.f58) Tryz.func58 rfl rfl rfl ?_
      conv => whnf
      repeat' (first
        | ((with_reducible refine Split.of_true ?_); conv => whnf)
        | ((with_reducible refine Split.of_false ?_); conv => whnf)
        | ((with_reducible refine Split.neg ?_))
        | ((with_reducible refine Split.is_true ?_ ?_); decide; conv => whnf)
        | ((with_reducible refine Split.is_false ?_ ?_); decide; conv => whnf)
        | ((with_reducible refine Split.nez (fun _ => ?_) (fun _ => ?_)) <;> conv => whnf)
        | ((with_reducible refine Split.eqz (fun _ => ?_) (fun _ => ?_)) <;> conv => whnf)
        | ((with_reducible refine Split.and ?_))
        | ((with_reducible refine Split.or ?_))
        | ((with_reducible refine Split.streq (fun _ => ?_) (fun _ => ?_)) <;> conv => whnf)
        | ((with_reducible refine Split.dec (fun _ => ?_) (fun _ => ?_)) <;> conv => whnf)
        | ((with_reducible refine Split.mk (fun _ => ?_) (fun _ => ?_)) <;> conv => whnf)
        | ((with_reducible refine NilK.mk (fun _ => ?_) ?_) <;> conv => whnf)
        | ((with_reducible refine AltK.l ?_); (conv => whnf); (with_reducible refine Need.mk ?_ ?_); (first | omega | (refine ⟨?_, ?_⟩ <;> simp <;> omega) | (simp; omega)); conv => whnf)
        | ((with_reducible refine Need.mk ?_ ?_); (first | omega | rfl | decide | (refine ⟨?_, ?_⟩ <;> simp <;> omega) | (simp; omega)); conv => whnf)
        | ((with_reducible refine Wr.quo ?_ ?_ ?_ ?_); omega; omega; omega; conv => whnf)
        | ((with_reducible refine Wr.inr ?_ ?_); (first | omega | (simp; omega)); conv => whnf)
        | ((with_reducible refine Wr.inu ?_ ?_); omega; conv => whnf)
        | ((with_reducible refine AltK.l ?_); (conv => whnf); (first | (refine CallK.mk _ (h1) ?_) | (refine CallK.mk _ (h2) ?_)); conv => whnf)
        | (exfalso; first | omega | contradiction))
      all_goals (simp_all [retOf, iD] <;> omega)
theorem ev_CheckFrame (g : Gr) : Ev Tryz.prog 6 [grD g] (iD (frErr g)) := by
  have h1 := ev_Within g.x (-1000000) 1000000
  have h2 := ev_Within g.y (-1000000) 1000000
  have h3 := ev_Within g.side 100 10000
  by_cases hc : 1 ≤ g.cols ∧ g.cols ≤ 1024 ∧ 1 ≤ g.rows ∧ g.rows ≤ 1024
  · have m := mul_bd (x := g.cols) (y := g.rows) (X := 1024) (Y := 1024) (by omega) (by omega)
    unfold frErr frBad frLarge
    generalize outsideB g.x (-1000000) 1000000 = b1 at *
    generalize outsideB g.y (-1000000) 1000000 = b2 at *
    generalize outsideB g.side 100 10000 = b3 at *
    cases b1 <;> cases b2 <;> cases b3
    all_goals
      refine ev_of_awp tysOk mixed (fn := Tryz.f6) Tryz.func6 rfl rfl rfl ?_
      conv => whnf
      repeat' (first
        | ((with_reducible refine Split.of_true ?_); conv => whnf)
        | ((with_reducible refine Split.of_false ?_); conv => whnf)
        | ((with_reducible refine Split.neg ?_))
        | ((with_reducible refine Split.is_true ?_ ?_); decide; conv => whnf)
        | ((with_reducible refine Split.is_false ?_ ?_); decide; conv => whnf)
        | ((with_reducible refine Split.nez (fun _ => ?_) (fun _ => ?_)) <;> conv => whnf)
        | ((with_reducible refine Split.eqz (fun _ => ?_) (fun _ => ?_)) <;> conv => whnf)
        | ((with_reducible refine Split.and ?_))
        | ((with_reducible refine Split.or ?_))
        | ((with_reducible refine Split.streq (fun _ => ?_) (fun _ => ?_)) <;> conv => whnf)
        | ((with_reducible refine Split.dec (fun _ => ?_) (fun _ => ?_)) <;> conv => whnf)
        | ((with_reducible refine Split.mk (fun _ => ?_) (fun _ => ?_)) <;> conv => whnf)
        | ((with_reducible refine NilK.mk (fun _ => ?_) ?_) <;> conv => whnf)
        | ((with_reducible refine AltK.l ?_); (conv => whnf); (with_reducible refine Need.mk ?_ ?_); (first | omega | (refine ⟨?_, ?_⟩ <;> simp <;> omega) | (simp; omega)); conv => whnf)
        | ((with_reducible refine Need.mk ?_ ?_); (first | omega | rfl | decide | (refine ⟨?_, ?_⟩ <;> simp <;> omega) | (simp; omega)); conv => whnf)
        | ((with_reducible refine Wr.quo ?_ ?_ ?_ ?_); omega; omega; omega; conv => whnf)
        | ((with_reducible refine Wr.inr ?_ ?_); (first | omega | (simp; omega)); conv => whnf)
        | ((with_reducible refine Wr.inu ?_ ?_); omega; conv => whnf)
        | ((with_reducible refine AltK.l ?_); (conv => whnf); (first | (refine CallK.mk _ (h1) ?_) | (refine CallK.mk _ (h2) ?_) | (refine CallK.mk _ (h3) ?_)); conv => whnf)
        | (exfalso; first | omega | contradiction))
      all_goals (simp_all [retOf, iD] <;> omega)
  · unfold frErr frBad frLarge
    generalize outsideB g.x (-1000000) 1000000 = b1 at *
    generalize outsideB g.y (-1000000) 1000000 = b2 at *
    generalize outsideB g.side 100 10000 = b3 at *
    cases b1 <;> cases b2 <;> cases b3
    all_goals
      refine ev_of_awp tysOk mixed (fn := Tryz.f6) Tryz.func6 rfl rfl rfl ?_
      conv => whnf
      repeat' (first
        | ((with_reducible refine Split.of_true ?_); conv => whnf)
        | ((with_reducible refine Split.of_false ?_); conv => whnf)
        | ((with_reducible refine Split.neg ?_))
        | ((with_reducible refine Split.is_true ?_ ?_); decide; conv => whnf)
        | ((with_reducible refine Split.is_false ?_ ?_); decide; conv => whnf)
        | ((with_reducible refine Split.nez (fun _ => ?_) (fun _ => ?_)) <;> conv => whnf)
        | ((with_reducible refine Split.eqz (fun _ => ?_) (fun _ => ?_)) <;> conv => whnf)
        | ((with_reducible refine Split.and ?_))
        | ((with_reducible refine Split.or ?_))
        | ((with_reducible refine Split.streq (fun _ => ?_) (fun _ => ?_)) <;> conv => whnf)
        | ((with_reducible refine Split.dec (fun _ => ?_) (fun _ => ?_)) <;> conv => whnf)
        | ((with_reducible refine Split.mk (fun _ => ?_) (fun _ => ?_)) <;> conv => whnf)
        | ((with_reducible refine NilK.mk (fun _ => ?_) ?_) <;> conv => whnf)
        | ((with_reducible refine AltK.l ?_); (conv => whnf); (with_reducible refine Need.mk ?_ ?_); (first | omega | (refine ⟨?_, ?_⟩ <;> simp <;> omega) | (simp; omega)); conv => whnf)
        | ((with_reducible refine Need.mk ?_ ?_); (first | omega | rfl | decide | (refine ⟨?_, ?_⟩ <;> simp <;> omega) | (simp; omega)); conv => whnf)
        | ((with_reducible refine Wr.quo ?_ ?_ ?_ ?_); omega; omega; omega; conv => whnf)
        | ((with_reducible refine Wr.inr ?_ ?_); (first | omega | (simp; omega)); conv => whnf)
        | ((with_reducible refine Wr.inu ?_ ?_); omega; conv => whnf)
        | ((with_reducible refine AltK.l ?_); (conv => whnf); (first | (refine CallK.mk _ (h1) ?_) | (refine CallK.mk _ (h2) ?_) | (refine CallK.mk _ (h3) ?_)); conv => whnf)
        | (exfalso; first | omega | contradiction))
      all_goals (simp_all [retOf, iD] <;> omega)
/-- The cell of a place, -1 if there is none. -/
def cellI (g : Gr) (s : Sg) : Int := if s.x - g.x < 0 ∨ s.y - g.y < 0 ∨ g.cols * g.side ≤ s.x - g.x ∨ g.rows * g.side ≤ s.y - g.y then -1 else (s.y - g.y) / g.side * g.cols + (s.x - g.x) / g.side
theorem div_in {a b n : Int} (hb : 0 < b) (h0 : 0 ≤ a) (h : a < n * b) : 0 ≤ a / b ∧ a / b < n := ⟨Int.ediv_nonneg h0 (by omega), Int.ediv_lt_of_lt_mul hb h⟩
theorem cell_in {g : Gr} (h : FrOk g) {s : Sg} (hc : cellI g s ≠ -1) : 0 ≤ cellI g s ∧ cellI g s < g.cols * g.rows := by
  unfold cellI at *
  split at hc
  · contradiction
  · rename_i h1
    rw [if_neg h1]
    have hs := h.side
    have hco := h.cols
    obtain ⟨a1, a2⟩ := div_in (a := s.x - g.x) (b := g.side) (n := g.cols) (by omega) (by omega) (by omega)
    obtain ⟨b1, b2⟩ := div_in (a := s.y - g.y) (b := g.side) (n := g.rows) (by omega) (by omega) (by omega)
    have m1 := Int.mul_nonneg b1 (show 0 ≤ g.cols by omega)
    have m2 := Int.mul_le_mul_of_nonneg_right (show (s.y - g.y) / g.side ≤ g.rows - 1 by omega) (show 0 ≤ g.cols by omega)
    rw [Int.sub_mul, Int.one_mul, Int.mul_comm g.rows] at m2
    omega
theorem ev_cell (g : Gr) (s : Sg) (h : FrOk g) (hs : -1000000 ≤ s.x ∧ s.x ≤ 1000000 ∧ -1000000 ≤ s.y ∧ s.y ≤ 1000000) : Ev Tryz.prog 59 [grD g, sgD s] (.tup [iD (if cellI g s = -1 then 0 else cellI g s), .bool (decide (cellI g s ≠ -1))]) := by
  have m1 := mul_bd (x := g.cols) (y := g.side) (X := 1024) (Y := 10000) (by have := h.cols; omega) (by have := h.side; omega)
  have m2 := mul_bd (x := g.rows) (y := g.side) (X := 1024) (Y := 10000) (by have := h.rows; omega) (by have := h.side; omega)
  have hx := h.x
  have hy := h.y
  have hsd := h.side
  have hco := h.cols
  have hro := h.rows
  by_cases hin : s.x - g.x < 0 ∨ s.y - g.y < 0 ∨ g.cols * g.side ≤ s.x - g.x ∨ g.rows * g.side ≤ s.y - g.y
  · have e : cellI g s = -1 := by rw [cellI, if_pos hin]
    rw [e]
    refine ev_of_awp tysOk mixed (fn := Tryz.f59) Tryz.func59 rfl rfl rfl ?_
    conv => whnf
    repeat' (first
      | ((with_reducible refine Split.of_true ?_); conv => whnf)
      | ((with_reducible refine Split.of_false ?_); conv => whnf)
      | ((with_reducible refine Split.neg ?_))
      | ((with_reducible refine Split.is_true ?_ ?_); decide; conv => whnf)
      | ((with_reducible refine Split.is_false ?_ ?_); decide; conv => whnf)
      | ((with_reducible refine Split.nez (fun _ => ?_) (fun _ => ?_)) <;> conv => whnf)
      | ((with_reducible refine Split.eqz (fun _ => ?_) (fun _ => ?_)) <;> conv => whnf)
      | ((with_reducible refine Split.and ?_))
      | ((with_reducible refine Split.or ?_))
      | ((with_reducible refine Split.streq (fun _ => ?_) (fun _ => ?_)) <;> conv => whnf)
      | ((with_reducible refine Split.dec (fun _ => ?_) (fun _ => ?_)) <;> conv => whnf)
      | ((with_reducible refine Split.mk (fun _ => ?_) (fun _ => ?_)) <;> conv => whnf)
      | ((with_reducible refine NilK.mk (fun _ => ?_) ?_) <;> conv => whnf)
      | ((with_reducible refine AltK.l ?_); (conv => whnf); (with_reducible refine Need.mk ?_ ?_); (first | omega | (refine ⟨?_, ?_⟩ <;> simp <;> omega) | (simp; omega)); conv => whnf)
      | ((with_reducible refine Need.mk ?_ ?_); (first | omega | rfl | decide | (refine ⟨?_, ?_⟩ <;> simp <;> omega) | (simp; omega)); conv => whnf)
      | ((with_reducible refine Wr.quo ?_ ?_ ?_ ?_); omega; omega; omega; conv => whnf)
      | ((with_reducible refine Wr.inr ?_ ?_); (first | omega | (simp; omega)); conv => whnf)
      | ((with_reducible refine Wr.inu ?_ ?_); omega; conv => whnf)
      | (exfalso; first | omega | contradiction))
    all_goals rfl
  · obtain ⟨a1, a2⟩ := div_in (a := s.x - g.x) (b := g.side) (n := g.cols) (by omega) (by omega) (by omega)
    obtain ⟨b1, b2⟩ := div_in (a := s.y - g.y) (b := g.side) (n := g.rows) (by omega) (by omega) (by omega)
    have m3 := mul_bd (x := (s.y - g.y) / g.side) (y := g.cols) (X := 1024) (Y := 1024) (by omega) (by omega)
    have m4 := Int.mul_nonneg b1 (show 0 ≤ g.cols by omega)
    have e : cellI g s = (s.y - g.y) / g.side * g.cols + (s.x - g.x) / g.side := by rw [cellI, if_neg hin]
    have e2 : cellI g s ≠ -1 := by omega
    rw [if_neg e2, decide_eq_true e2, e]
    refine ev_of_awp tysOk mixed (fn := Tryz.f59) Tryz.func59 rfl rfl rfl ?_
    conv => whnf
    repeat' (first
      | ((with_reducible refine Split.of_true ?_); conv => whnf)
      | ((with_reducible refine Split.of_false ?_); conv => whnf)
      | ((with_reducible refine Split.neg ?_))
      | ((with_reducible refine Split.is_true ?_ ?_); decide; conv => whnf)
      | ((with_reducible refine Split.is_false ?_ ?_); decide; conv => whnf)
      | ((with_reducible refine Split.nez (fun _ => ?_) (fun _ => ?_)) <;> conv => whnf)
      | ((with_reducible refine Split.eqz (fun _ => ?_) (fun _ => ?_)) <;> conv => whnf)
      | ((with_reducible refine Split.and ?_))
      | ((with_reducible refine Split.or ?_))
      | ((with_reducible refine Split.streq (fun _ => ?_) (fun _ => ?_)) <;> conv => whnf)
      | ((with_reducible refine Split.dec (fun _ => ?_) (fun _ => ?_)) <;> conv => whnf)
      | ((with_reducible refine Split.mk (fun _ => ?_) (fun _ => ?_)) <;> conv => whnf)
      | ((with_reducible refine NilK.mk (fun _ => ?_) ?_) <;> conv => whnf)
      | ((with_reducible refine AltK.l ?_); (conv => whnf); (with_reducible refine Need.mk ?_ ?_); (first | omega | (refine ⟨?_, ?_⟩ <;> simp <;> omega) | (simp; omega)); conv => whnf)
      | ((with_reducible refine Need.mk ?_ ?_); (first | omega | rfl | decide | (refine ⟨?_, ?_⟩ <;> simp <;> omega) | (simp; omega)); conv => whnf)
      | ((with_reducible refine Wr.quo ?_ ?_ ?_ ?_); omega; omega; omega; conv => whnf)
      | ((with_reducible refine Wr.inr ?_ ?_); (first | omega | (simp; omega)); conv => whnf)
      | ((with_reducible refine Wr.inu ?_ ?_); omega; conv => whnf)
      | (exfalso; first | omega | contradiction))
    all_goals rfl
def repE (v : Int) (n m : Nat) : List D := List.replicate m (iD v) ++ List.replicate (n - m) (D.int .i64 0)
theorem repE_len (v : Int) {n m : Nat} (h : m ≤ n) : (repE v n m).length = n := by simp [repE]; omega
theorem rep_first (v : Int) {n : Nat} (h : 1 ≤ n) : cpy (List.replicate n (D.int .i64 0)) 0 (n - 0) [iD v] = repE v n 1 := by
  simp only [cpy, repE, List.take_zero, List.nil_append, List.drop_replicate]
  rw [show min (n - 0) [iD v].length = 1 by simp; omega, List.take_of_length_le (by simp; omega)]
  simp
theorem rep_step (v : Int) {n m : Nat} (_h : m < n) : cpy (repE v n m) m (n - m) (((repE v n m).take m).drop 0) = repE v n (m + min (n - m) m) := by
  have e1 : (repE v n m).take m = List.replicate m (iD v) := by simp [repE]
  have e2 : ∀ k, m ≤ k → (repE v n m).drop k = List.replicate (n - k) (D.int .i64 0) := by
    intro k hk
    rw [repE, List.drop_append, List.drop_replicate, List.drop_replicate, List.length_replicate]
    rw [show m - k = 0 by omega, show n - m - (k - m) = n - k by omega]; rfl
  rw [cpy, e1, List.drop_zero, List.length_replicate, e2 _ (by omega), List.take_replicate, repE, List.replicate_append_replicate]
theorem xv_Repeat (v : Int) (n : Nat) (hn : 1 ≤ n ∧ n ≤ 1024) : EvX Tryz.prog 60 [.own 1000 1 1, .d (iD n)] [(1000, .row 3 1 [iD v] false)] (.own 9 1 n) [(1000, .row 3 1 [iD v] false), (9, .row 3 1 (List.replicate n (iD v)) false)] := by
  have h1 := ev_MulU 1 n (by omega) (by omega) (by omega)
  rw [Int.one_mul] at h1
  refine evx_of_awp tysOk mixed (fn := Tryz.f60) Tryz.func60 rfl rfl rfl ?_
  conv => whnf
  repeat' (first
    | ((with_reducible refine Wr.inu (by first | omega | simp) ?_); conv => whnf)
    | ((with_reducible refine Split.of_true ?_); conv => whnf)
    | ((with_reducible refine Split.of_false ?_); conv => whnf)
    | ((with_reducible refine Split.neg ?_))
    | ((with_reducible refine Split.is_true ?_ ?_); decide; conv => whnf)
    | ((with_reducible refine Split.is_false ?_ ?_); decide; conv => whnf)
    | ((with_reducible refine Split.nez (fun _ => ?_) (fun _ => ?_)) <;> conv => whnf)
    | ((with_reducible refine Split.eqz (fun _ => ?_) (fun _ => ?_)) <;> conv => whnf)
    | ((with_reducible refine Split.and ?_))
    | ((with_reducible refine Split.or ?_))
    | ((with_reducible refine Split.streq (fun _ => ?_) (fun _ => ?_)) <;> conv => whnf)
    | ((with_reducible refine Split.dec (fun _ => ?_) (fun _ => ?_)) <;> conv => whnf)
    | ((with_reducible refine Split.mk (fun _ => ?_) (fun _ => ?_)) <;> conv => whnf)
    | ((with_reducible refine NilK.mk (fun _ => ?_) ?_) <;> conv => whnf)
    | ((with_reducible refine AltK.l ?_); (conv => whnf); (with_reducible refine Need.mk ?_ ?_); (first | omega | (refine ⟨?_, ?_⟩ <;> simp <;> omega) | (simp; omega)); conv => whnf)
    | ((with_reducible refine Need.mk ?_ ?_); (first | omega | rfl | decide | (refine ⟨?_, ?_⟩ <;> simp <;> omega) | (simp; omega)); conv => whnf)
    | ((with_reducible refine Wr.quo ?_ ?_ ?_ ?_); omega; omega; omega; conv => whnf)
    | ((with_reducible refine Wr.inr ?_ ?_); (first | omega | (simp; omega)); conv => whnf)
    | ((with_reducible refine Wr.inu ?_ ?_); omega; conv => whnf)
    | ((with_reducible refine AltK.l ?_); (conv => whnf); (first | (refine CallK.mk _ (h1) ?_)); conv => whnf)
    | (exfalso; first | omega | contradiction))
  have hmp1 : cpy (List.replicate ((n : Int)).toNat (D.int .i64 0)) 0 ((List.replicate ((n : Int)).toNat (D.int .i64 0)).length - 0) [iD v] = repE v n 1 := by
    rw [Int.toNat_natCast, List.length_replicate]; exact rep_first v hn.1
  refine LoopK.o2 (fun m : Nat => 1 ≤ m ∧ m ≤ n) (fun m => [(8, .d (.int .i64 m))]) (fun m => [(30, .row 3 1 (repE v n m) false)]) (fun m => n - m) 1 ⟨by omega, by omega⟩ (by refine ⟨?_, ?_, rfl⟩ <;> (repeat' (first | exact True.intro | exact rfl | refine ⟨?_, ?_⟩ | (intro h; cases h; done) | (intro h; exact h) | exact map_snoc | (refine own_congr ?_; simp; done) | (refine int_congr ?_; (first | omega | (simp; omega))) | (simp; done) | exact hmp1 | ((first | refine own_congr ?_ | refine int_congr ?_ | skip); simp [D.cells]; done) | ((first | refine own_congr ?_ | refine int_congr ?_); simp [D.cells]; omega) | (show @Eq (List Go.Vm.D) _ []; simp [D.cells]; done) | (simp [D.cells, D.cells]; done)))) ?_
  rintro m ⟨hm1, hm2⟩
  have hl := repE_len v hm2
  by_cases hmn : m < n
  · conv => whnf
    repeat' (first
      | ((with_reducible refine Split.of_true ?_); conv => whnf)
      | ((with_reducible refine Split.of_false ?_); conv => whnf)
      | ((with_reducible refine Split.neg ?_))
      | ((with_reducible refine Split.is_true ?_ ?_); decide; conv => whnf)
      | ((with_reducible refine Split.is_false ?_ ?_); decide; conv => whnf)
      | ((with_reducible refine Split.nez (fun _ => ?_) (fun _ => ?_)) <;> conv => whnf)
      | ((with_reducible refine Split.eqz (fun _ => ?_) (fun _ => ?_)) <;> conv => whnf)
      | ((with_reducible refine Split.and ?_))
      | ((with_reducible refine Split.or ?_))
      | ((with_reducible refine Split.streq (fun _ => ?_) (fun _ => ?_)) <;> conv => whnf)
      | ((with_reducible refine Split.dec (fun _ => ?_) (fun _ => ?_)) <;> conv => whnf)
      | ((with_reducible refine Split.mk (fun _ => ?_) (fun _ => ?_)) <;> conv => whnf)
      | ((with_reducible refine NilK.mk (fun _ => ?_) ?_) <;> conv => whnf)
      | ((with_reducible refine Need.mk ?_ ?_); (first | omega | rfl | decide | (refine ⟨?_, ?_⟩ <;> simp <;> omega) | (simp; omega)); conv => whnf)
      | ((with_reducible refine Wr.quo ?_ ?_ ?_ ?_); omega; omega; omega; conv => whnf)
      | ((with_reducible refine Wr.inr ?_ ?_); (first | omega | (simp; omega)); conv => whnf)
      | ((with_reducible refine Wr.inu ?_ ?_); omega; conv => whnf)
      | (exfalso; first | omega | contradiction))
    refine AltK.r (AltK.l ?_)
    conv => whnf
    conv => whnf
    repeat' (first
      | ((with_reducible refine Split.of_true ?_); conv => whnf)
      | ((with_reducible refine Split.of_false ?_); conv => whnf)
      | ((with_reducible refine Split.neg ?_))
      | ((with_reducible refine Split.is_true ?_ ?_); decide; conv => whnf)
      | ((with_reducible refine Split.is_false ?_ ?_); decide; conv => whnf)
      | ((with_reducible refine Split.nez (fun _ => ?_) (fun _ => ?_)) <;> conv => whnf)
      | ((with_reducible refine Split.eqz (fun _ => ?_) (fun _ => ?_)) <;> conv => whnf)
      | ((with_reducible refine Split.and ?_))
      | ((with_reducible refine Split.or ?_))
      | ((with_reducible refine Split.streq (fun _ => ?_) (fun _ => ?_)) <;> conv => whnf)
      | ((with_reducible refine Split.dec (fun _ => ?_) (fun _ => ?_)) <;> conv => whnf)
      | ((with_reducible refine Split.mk (fun _ => ?_) (fun _ => ?_)) <;> conv => whnf)
      | ((with_reducible refine NilK.mk (fun _ => ?_) ?_) <;> conv => whnf)
      | ((with_reducible refine Need.mk ?_ ?_); (first | omega | rfl | decide | (refine ⟨?_, ?_⟩ <;> simp <;> omega) | (simp; omega)); conv => whnf)
      | ((with_reducible refine Wr.quo ?_ ?_ ?_ ?_); omega; omega; omega; conv => whnf)
      | ((with_reducible refine Wr.inr ?_ ?_); (first | omega | (simp; omega)); conv => whnf)
      | ((with_reducible refine Wr.inu ?_ ?_); omega; conv => whnf)
      | (exfalso; first | omega | contradiction))
    refine AltK.r (AltK.l ?_)
    conv => whnf
    conv => whnf
    repeat' (first
      | ((with_reducible refine Split.of_true ?_); conv => whnf)
      | ((with_reducible refine Split.of_false ?_); conv => whnf)
      | ((with_reducible refine Split.neg ?_))
      | ((with_reducible refine Split.is_true ?_ ?_); decide; conv => whnf)
      | ((with_reducible refine Split.is_false ?_ ?_); decide; conv => whnf)
      | ((with_reducible refine Split.nez (fun _ => ?_) (fun _ => ?_)) <;> conv => whnf)
      | ((with_reducible refine Split.eqz (fun _ => ?_) (fun _ => ?_)) <;> conv => whnf)
      | ((with_reducible refine Split.and ?_))
      | ((with_reducible refine Split.or ?_))
      | ((with_reducible refine Split.streq (fun _ => ?_) (fun _ => ?_)) <;> conv => whnf)
      | ((with_reducible refine Split.dec (fun _ => ?_) (fun _ => ?_)) <;> conv => whnf)
      | ((with_reducible refine Split.mk (fun _ => ?_) (fun _ => ?_)) <;> conv => whnf)
      | ((with_reducible refine NilK.mk (fun _ => ?_) ?_) <;> conv => whnf)
      | ((with_reducible refine Need.mk ?_ ?_); (first | omega | rfl | decide | (refine ⟨?_, ?_⟩ <;> simp <;> omega) | (simp; omega)); conv => whnf)
      | ((with_reducible refine Wr.quo ?_ ?_ ?_ ?_); omega; omega; omega; conv => whnf)
      | ((with_reducible refine Wr.inr ?_ ?_); (first | omega | (simp; omega)); conv => whnf)
      | ((with_reducible refine Wr.inu ?_ ?_); omega; conv => whnf)
      | (exfalso; first | omega | contradiction))
    have hmin : min (((repE v n m).length : Int).toNat - (m : Int).toNat) (((repE v n m).take (m : Int).toNat).drop (Int.toNat 0)).length = min (n - m) m := by
      rw [Int.toNat_natCast, Int.toNat_natCast, hl, show Int.toNat 0 = 0 from rfl, List.drop_zero, List.length_take, hl, Nat.min_eq_left hm2]
    have hmp3 : cpy (repE v n m) (m : Int).toNat (((repE v n m).length : Int).toNat - (m : Int).toNat) (((repE v n m).take (m : Int).toNat).drop (Int.toNat 0)) = repE v n (m + min (n - m) m) := by
      rw [Int.toNat_natCast, Int.toNat_natCast, hl]; exact rep_step v hmn
    have hmp4 : AV.d (.int .i64 ((m : Int) + ((min (((repE v n m).length : Int).toNat - (m : Int).toNat) (((repE v n m).take (m : Int).toNat).drop (Int.toNat 0)).length : Nat) : Int))) = AV.d (.int .i64 ((m + min (n - m) m : Nat) : Int)) := by
      rw [hmin]; congr 2
    exact Again.au (m + min (n - m) m) ⟨by omega, by omega⟩ (by omega) (by refine ⟨?_, ?_, rfl⟩ <;> (repeat' (first | exact True.intro | exact rfl | refine ⟨?_, ?_⟩ | (intro h; cases h; done) | (intro h; exact h) | exact map_snoc | (refine own_congr ?_; simp; done) | (refine int_congr ?_; (first | omega | (simp; omega))) | (simp; done) | exact hmp3 | exact hmp4 | ((first | refine own_congr ?_ | refine int_congr ?_ | skip); simp [D.cells]; done) | ((first | refine own_congr ?_ | refine int_congr ?_); simp [D.cells]; omega) | (show @Eq (List Go.Vm.D) _ []; simp [D.cells]; done) | (simp [D.cells, D.cells]; done))))
  · conv => whnf
    repeat' (first
      | ((with_reducible refine Split.of_true ?_); conv => whnf)
      | ((with_reducible refine Split.of_false ?_); conv => whnf)
      | ((with_reducible refine Split.neg ?_))
      | ((with_reducible refine Split.is_true ?_ ?_); decide; conv => whnf)
      | ((with_reducible refine Split.is_false ?_ ?_); decide; conv => whnf)
      | ((with_reducible refine Split.nez (fun _ => ?_) (fun _ => ?_)) <;> conv => whnf)
      | ((with_reducible refine Split.eqz (fun _ => ?_) (fun _ => ?_)) <;> conv => whnf)
      | ((with_reducible refine Split.and ?_))
      | ((with_reducible refine Split.or ?_))
      | ((with_reducible refine Split.streq (fun _ => ?_) (fun _ => ?_)) <;> conv => whnf)
      | ((with_reducible refine Split.dec (fun _ => ?_) (fun _ => ?_)) <;> conv => whnf)
      | ((with_reducible refine Split.mk (fun _ => ?_) (fun _ => ?_)) <;> conv => whnf)
      | ((with_reducible refine NilK.mk (fun _ => ?_) ?_) <;> conv => whnf)
      | ((with_reducible refine AltK.l ?_); (conv => whnf); (with_reducible refine Need.mk ?_ ?_); (first | omega | (refine ⟨?_, ?_⟩ <;> simp <;> omega) | (simp; omega)); conv => whnf)
      | ((with_reducible refine Need.mk ?_ ?_); (first | omega | rfl | decide | (refine ⟨?_, ?_⟩ <;> simp <;> omega) | (simp; omega)); conv => whnf)
      | ((with_reducible refine Wr.quo ?_ ?_ ?_ ?_); omega; omega; omega; conv => whnf)
      | ((with_reducible refine Wr.inr ?_ ?_); (first | omega | (simp; omega)); conv => whnf)
      | ((with_reducible refine Wr.inu ?_ ?_); omega; conv => whnf)
      | (exfalso; first | omega | contradiction))
    have e : m = n := by omega
    subst e
    have hmp5 : repE v m m = List.replicate m (iD v) := by simp [repE]
    exact ⟨⟨[(9, some 30)], (by refine ⟨?_, ?_, rfl⟩ <;> (repeat' (first | exact True.intro | exact rfl | refine ⟨?_, ?_⟩ | (intro h; cases h; done) | (intro h; exact h) | exact map_snoc | (refine own_congr ?_; simp; done) | (refine int_congr ?_; (first | omega | (simp; omega))) | (simp; done) | exact hmp5 | ((first | refine own_congr ?_ | refine int_congr ?_ | skip); simp [D.cells]; done) | ((first | refine own_congr ?_ | refine int_congr ?_); simp [D.cells]; omega) | (show @Eq (List Go.Vm.D) _ []; simp [D.cells]; done) | (simp [D.cells, D.cells]; done))))⟩, rfl⟩
end Go.Proofs.Tryz
end

section
namespace Go.Proofs.Tryz
open Go Go.Vm Go.Sort
set_option maxRecDepth 20000
set_option maxHeartbeats 4000000
/-! Binning: the greatest value of each cell. -/
def zget (es : List (Int × Int)) (k : Int) : Option Int := match es with
  | [] => none
  | p :: r => if k = p.1 then some p.2 else zget r k
def zput : List (Int × Int) → Int → Int → List (Int × Int)
  | [], k, x => [(k, x)]
  | p :: r, k, x => if k = p.1 then (k, x) :: r else p :: zput r k x
def zD (es : List (Int × Int)) : List (D × D) := es.map fun p => (iD p.1, iD p.2)
theorem mget_z (k : Int) : ∀ es : List (Int × Int), mget (zD es) (iD k) = (zget es k).map iD
  | [] => rfl
  | p :: r => by
    have ih := mget_z k r
    simp only [zD, List.map_cons] at ih ⊢
    rw [mget, ih, zget]
    by_cases h : k = p.1 <;> simp [keyEq, iD, h]
theorem mput_z (k x : Int) : ∀ es : List (Int × Int), mput (zD es) (iD k) (iD x) = zD (zput es k x)
  | [] => rfl
  | p :: r => by
    have ih := mput_z k x r
    simp only [zD, List.map_cons] at ih ⊢
    rw [mput, ih, zput]
    by_cases h : k = p.1 <;> simp [keyEq, iD, h]
theorem zget_put (k x j : Int) : ∀ es : List (Int × Int), zget (zput es k x) j = if j = k then some x else zget es j
  | [] => by simp only [zput, zget]
  | p :: r => by
    have ih := zget_put k x j r
    rw [zput]
    by_cases h : k = p.1
    · rw [if_pos h, zget, zget, h]
      split <;> rfl
    · rw [if_neg h, zget, zget, ih]
      by_cases h2 : j = p.1
      · subst h2; rw [if_pos rfl, if_pos rfl, if_neg (Ne.symm h)]
      · rw [if_neg h2, if_neg h2]
theorem zput_keys (k x : Int) : ∀ es : List (Int × Int), ∀ p ∈ zput es k x, p.1 = k ∨ p.1 ∈ es.map Prod.fst
  | [], p, h => by simp [zput] at h; left; rw [h]
  | q :: r, p, h => by
    rw [zput] at h
    split at h
    · rcases List.mem_cons.1 h with rfl | h
      · exact .inl rfl
      · right; simp; right; exact ⟨p.2, h⟩
    · rcases List.mem_cons.1 h with rfl | h
      · right; simp
      · rcases zput_keys k x r p h with h | h
        · exact .inl h
        · right; rw [List.map_cons]; exact List.mem_cons_of_mem _ h
theorem zput_nodup (k x : Int) : ∀ es : List (Int × Int), es.Pairwise (fun a b => a.1 ≠ b.1) → (zput es k x).Pairwise fun a b => a.1 ≠ b.1
  | [], _ => by simp [zput]
  | p :: r, h => by
    obtain ⟨h1, h2⟩ := List.pairwise_cons.1 h
    rw [zput]
    split
    · rename_i e
      exact List.pairwise_cons.2 ⟨fun q hq => by rw [e]; exact h1 q hq, h2⟩
    · rename_i e
      refine List.pairwise_cons.2 ⟨fun q hq => ?_, zput_nodup k x r h2⟩
      rcases zput_keys k x r q hq with h3 | h3
      · rw [h3]; exact Ne.symm e
      · obtain ⟨t, ht, e2⟩ := List.mem_map.1 h3
        rw [← e2]; exact h1 t ht
theorem zget_mem : ∀ {es : List (Int × Int)}, es.Pairwise (fun a b => a.1 ≠ b.1) → ∀ p ∈ es, zget es p.1 = some p.2
  | [], _, p, h => by cases h
  | q :: r, h, p, hp => by
    obtain ⟨h1, h2⟩ := List.pairwise_cons.1 h
    rw [zget]
    rcases List.mem_cons.1 hp with rfl | hp
    · rw [if_pos rfl]
    · rw [if_neg (Ne.symm (h1 p hp))]; exact zget_mem h2 p hp
theorem zget_some : ∀ {es : List (Int × Int)} {k x : Int}, zget es k = some x → (k, x) ∈ es
  | [], k, x, h => by cases h
  | q :: r, k, x, h => by
    rw [zget] at h
    split at h
    · rename_i e; cases h; rw [e]; exact List.mem_cons_self
    · exact List.mem_cons_of_mem _ (zget_some h)
def bnStep (g : Gr) (v : Sg → Int) (es : List (Int × Int)) (s : Sg) : List (Int × Int) := if cellI g s = -1 then es else match zget es (cellI g s) with
  | some o => if v s > o then zput es (cellI g s) (v s) else es
  | none => zput es (cellI g s) (v s)
def bnS (g : Gr) (v : Sg → Int) (m : List Sg) : List (Int × Int) := m.foldl (bnStep g v) []
def mxStep (g : Gr) (v : Sg → Int) (i : Int) (o : Option Int) (s : Sg) : Option Int := if cellI g s = i then (match o with
  | some x => some (if v s > x then v s else x)
  | none => some (v s)) else o
def maxO (g : Gr) (v : Sg → Int) (m : List Sg) (i : Int) : Option Int := m.foldl (mxStep g v i) none
theorem bn_snoc (g : Gr) (v : Sg → Int) {m : List Sg} {i : Nat} {s : Sg} (h : m[i]? = some s) : bnS g v (m.take (i + 1)) = bnStep g v (bnS g v (m.take i)) s := by
  rw [bnS, take_snoc h, List.foldl_append]; rfl
structure BnOk (g : Gr) (v : Sg → Int) (m : List Sg) : Prop where
  get : ∀ i, i ≠ -1 → zget (bnS g v m) i = maxO g v m i
  nod : (bnS g v m).Pairwise fun a b => a.1 ≠ b.1
  key : ∀ p ∈ bnS g v m, ∃ s ∈ m, p.1 = cellI g s ∧ cellI g s ≠ -1
theorem bn_ok (g : Gr) (v : Sg → Int) (m : List Sg) : BnOk g v m := by
  refine list_snoc (P := BnOk g v) ⟨fun _ _ => rfl, .nil, fun p h => (by cases h)⟩ (fun m s ih => ?_) m
  have e1 : bnS g v (m ++ [s]) = bnStep g v (bnS g v m) s := by rw [bnS, List.foldl_append]; rfl
  have e2 : ∀ i, maxO g v (m ++ [s]) i = mxStep g v i (maxO g v m i) s := fun i => by rw [maxO, List.foldl_append]; rfl
  obtain ⟨h1, h2, h3⟩ := ih
  have h3' : ∀ p ∈ bnS g v m, ∃ t ∈ m ++ [s], p.1 = cellI g t ∧ cellI g t ≠ -1 := fun p hp => by
    obtain ⟨t, ht, h⟩ := h3 p hp
    exact ⟨t, List.mem_append_left _ ht, h⟩
  have hput : cellI g s ≠ -1 → ∀ p ∈ zput (bnS g v m) (cellI g s) (v s), ∃ t ∈ m ++ [s], p.1 = cellI g t ∧ cellI g t ≠ -1 := by
    intro hc p hp
    rcases zput_keys _ _ _ p hp with h | h
    · exact ⟨s, by simp, h, hc⟩
    · obtain ⟨q, hq, e⟩ := List.mem_map.1 h
      rw [← e]; exact h3' q hq
  constructor
  · intro i hi
    rw [e1, e2, bnStep]
    unfold mxStep
    by_cases hc : cellI g s = -1
    · rw [if_pos hc, if_neg (by omega), h1 i hi]
    · rw [if_neg hc]
      have hz := h1 (cellI g s) hc
      by_cases hci : cellI g s = i
      · rw [if_pos hci]
        subst hci
        rw [← hz]
        cases hq : zget (bnS g v m) (cellI g s) with
        | none => simp only [zget_put, if_pos]
        | some o =>
          simp only
          split
          · rw [zget_put, if_pos rfl]
          · exact hq
      · rw [if_neg hci, ← h1 i hi]
        cases hq : zget (bnS g v m) (cellI g s) with
        | none => simp only [zget_put]; rw [if_neg (Ne.symm hci)]
        | some o =>
          simp only
          split
          · rw [zget_put, if_neg (Ne.symm hci)]
          · rfl
  · rw [e1, bnStep]
    repeat' split
    all_goals first | exact h2 | exact zput_nodup _ _ _ h2
  · rw [e1, bnStep]
    split
    · exact h3'
    · rename_i hc
      repeat' split
      all_goals first | exact hput hc | exact h3'
def cellsN (g : Gr) : Nat := (g.cols * g.rows).toNat
def levS (g : Gr) (v : Sg → Int) (l : List Sg) : List Int := (List.range (cellsN g)).map fun i : Nat => (maxO g v l (i : Int)).getD 30000
def badO : Option Int → Bool
  | some x => outsideB x (-20000) 20000
  | none => false
def badS (g : Gr) (v : Sg → Int) (l : List Sg) : Bool := (List.range (cellsN g)).any fun i : Nat => badO (maxO g v l (i : Int))
def gr0 : Gr := ⟨0, 0, 0, 0, 0, []⟩
def binRes (g : Gr) (v : Sg → Int) (l : List Sg) : Gr × Int := if chkErr sgB Sg.n l ≠ 0 then (gr0, chkErr sgB Sg.n l) else if frErr g ≠ 0 then (gr0, frErr g) else if badS g v l = true then (gr0, 2) else ({ g with lv := levS g v l }, 0)
def grE (x : Gr × Int) : D := .tup [grD x.1, iD x.2]
theorem bad_lv {g : Gr} {v : Sg → Int} {l : List Sg} (hF : FrOk g) : badS g v l = (bnS g v l).any fun p => outsideB p.2 (-20000) 20000 := by
  obtain ⟨h1, h2, h3⟩ := bn_ok g v l
  rw [Bool.eq_iff_iff, badS, List.any_eq_true, List.any_eq_true]
  constructor
  · rintro ⟨i, hi, hb⟩
    rw [← h1 i (by omega)] at hb
    cases hz : zget (bnS g v l) i with
    | none => rw [hz] at hb; cases hb
    | some x => rw [hz] at hb; exact ⟨_, zget_some hz, hb⟩
  · rintro ⟨p, hp, hb⟩
    obtain ⟨s, _, e, hc⟩ := h3 p hp
    have hin := cell_in hF hc
    refine ⟨p.1.toNat, by rw [List.mem_range]; unfold cellsN; omega, ?_⟩
    have e2 : ((p.1.toNat : Nat) : Int) = p.1 := by omega
    rw [e2, ← h1 p.1 (by omega), zget_mem h2 p hp]
    exact hb
def rowOf (lv : List (Int × Int)) (n : Nat) (seen : List Nat) : List Int := seen.foldr (fun j row => match lv[j]? with
  | some p => row.set p.1.toNat p.2
  | none => row) (List.replicate n 30000)
theorem rowOf_len (lv : List (Int × Int)) (n : Nat) : ∀ seen, (rowOf lv n seen).length = n
  | [] => by simp [rowOf]
  | j :: seen => by
    have := rowOf_len lv n seen
    rw [rowOf, List.foldr_cons]
    rw [rowOf] at this
    split <;> simp [this]
theorem rowOf_get {lv : List (Int × Int)} {n : Nat} (hk : ∀ p ∈ lv, 0 ≤ p.1) {i : Nat} (hi : i < n) : ∀ seen, (rowOf lv n seen)[i]? = some (match (seen.filterMap fun j => lv[j]?).find? (fun p => p.1 == (i : Int)) with
    | some p => p.2
    | none => 30000)
  | [] => by simp [rowOf, hi]
  | j :: seen => by
    have ih := rowOf_get hk hi seen
    have hl := rowOf_len lv n seen
    rw [rowOf, List.foldr_cons]
    rw [rowOf] at ih hl
    cases hj : lv[j]? with
    | none => simp only [List.filterMap_cons, hj]; exact ih
    | some p =>
      have h0 := hk p (List.mem_of_getElem? hj)
      simp only [List.filterMap_cons, hj, List.find?_cons]
      by_cases e : p.1 = (i : Int)
      · have e2 : p.1.toNat = i := by omega
        have e3 : (p.1 == (i : Int)) = true := by simpa using e
        rw [e3, e2, List.getElem?_set]; simp [hl, hi]
      · have e2 : p.1.toNat ≠ i := by omega
        have e3 : (p.1 == (i : Int)) = false := by simpa using e
        rw [e3, List.getElem?_set_ne e2]; exact ih
theorem rowOf_all {g : Gr} {v : Sg → Int} {l : List Sg} (hF : FrOk g) {seen : List Nat} (h : ∀ j, j < (bnS g v l).length → j ∈ seen) : rowOf (bnS g v l) (cellsN g) seen = levS g v l := by
  obtain ⟨h1, h2, h3⟩ := bn_ok g v l
  have hk : ∀ p ∈ bnS g v l, 0 ≤ p.1 := fun p hp => by
    obtain ⟨s, _, e, hc⟩ := h3 p hp
    have := cell_in hF hc
    omega
  apply List.ext_getElem?
  intro i
  by_cases hi : i < cellsN g
  · rw [rowOf_get hk hi, levS, List.getElem?_map, List.getElem?_range hi, Option.map_some]
    congr 1
    rw [← h1 i (by omega)]
    cases hf : (seen.filterMap fun j => (bnS g v l)[j]?).find? fun p => p.1 == (i : Int) with
    | some p =>
      have hm := List.mem_of_find?_eq_some hf
      have he : p.1 = i := by simpa using List.find?_some hf
      obtain ⟨j, _, hj⟩ := List.mem_filterMap.1 hm
      rw [← he, zget_mem h2 p (List.mem_of_getElem? hj)]; rfl
    | none =>
      cases hz : zget (bnS g v l) i with
      | none => rfl
      | some x =>
        have hx := zget_some hz
        obtain ⟨j, hj, e⟩ := List.getElem_of_mem hx
        have := List.find?_eq_none.1 hf ((i : Int), x) (List.mem_filterMap.2 ⟨j, h j hj, by rw [List.getElem?_eq_getElem hj, e]⟩)
        simp at this
  · rw [List.getElem?_eq_none (by rw [rowOf_len]; omega), List.getElem?_eq_none (by rw [levS, List.length_map, List.length_range]; omega)]
end Go.Proofs.Tryz
end

section
namespace Go.Proofs.Tryz
open Go Go.Vm Go.Sort
set_option maxRecDepth 20000
set_option maxHeartbeats 8000000
/-! Right thinnings. -/
def notUp (o : List Sg) (n : Int) : Bool := match o.getLast? with
  | none => false
  | some p => decide (n ≤ p.n)
def kRun (l : List Sg) (r : Int) : List Sg → List Int → Option (List Sg)
  | o, [] => some o
  | o, n :: rest => match l.find? fun s => s.n == n with
    | none => none
    | some s => if notUp o n = true then none else if (o.any fun k => decide (sqS k s.x s.y ≤ r * r)) = true then none else kRun l r (o ++ [s]) rest
def gUp : Option Int → Int → Bool
  | none, _ => false
  | some q, n => decide (n ≤ q)
def gBad (r : Int) (s k : Sg) : Bool := decide (sqS k s.x s.y > r * r) || decide (k.hi < s.hi)
def gRun (l kp : List Sg) (r : Int) : Option Int → List (Int × Int) → Bool
  | _, [] => true
  | p, g :: rest => match l.find? (fun s => s.n == g.1), kp.find? (fun s => s.n == g.2) with
    | some s, some k => if (kp.find? fun s => s.n == g.1).isSome = true then false else if gUp p g.1 = true then false else if gBad r s k = true then false else gRun l kp r (some g.1) rest
    | _, _ => false
def rightB (l : List Sg) (r : Int) (k : List Int) (g : List (Int × Int)) : Bool := decide (k.length + g.length = l.length) && match kRun l r [] k with
  | none => false
  | some kp => gRun l kp r none g
/-- What is kept so far: in order, out of the sheet, under the numbers that were read. -/
structure KOk (l : List Sg) (k : List Int) (i : Nat) (o : List Sg) : Prop where
  nums : o.map Sg.n = k.take i
  sub : ∀ s ∈ o, s ∈ l
  up : o.Pairwise fun a b => a.n < b.n
theorem KOk.len {l : List Sg} {k : List Int} {i : Nat} {o : List Sg} (h : KOk l k i o) : o.length = min i k.length := by
  have := congrArg List.length h.nums
  rwa [List.length_map, List.length_take] at this
theorem find_mem {l : List Sg} {n : Int} {s : Sg} (h : (l.find? fun s => s.n == n) = some s) : s ∈ l ∧ s.n = n := ⟨List.mem_of_find?_eq_some h, by simpa using List.find?_some h⟩
theorem nodup_len : ∀ (n : Nat) (l : List Nat), l.Nodup → (∀ x ∈ l, x < n) → l.length ≤ n
  | 0, l, _, h => by
    cases l with
    | nil => simp
    | cons a r => have := h a (by simp); omega
  | n + 1, l, hn, h => by
    by_cases hm : n ∈ l
    · have := nodup_len n (l.erase n) (hn.erase n) fun x hx => by
        have h1 := h x (List.mem_of_mem_erase hx)
        have h2 : x ≠ n := ((hn.mem_erase_iff).1 hx).1
        omega
      rw [List.length_erase_of_mem hm] at this
      omega
    · have := nodup_len n l hn fun x hx => by
        have h1 := h x hx
        have : x ≠ n := by rintro rfl; exact hm hx
        omega
      omega
theorem LookK.byN {o : List Sg} (hu : NoTwo o) {n : Int} {A : D → Prop} {B : Prop} (h1 : ∀ s, (o.find? fun s => s.n == n) = some s → A (sgD s)) (h2 : (o.find? fun s => s.n == n) = none → B) : LookK (Go.Proofs.Tryz.byN o) (iD n) A B := by
  refine LookK.mk (fun v hv => ?_) (fun hv => ?_)
  · rw [mget_byN _ _ hu, Option.map_eq_some_iff] at hv
    obtain ⟨s, hs, rfl⟩ := hv
    exact h1 s hs
  · rw [mget_byN _ _ hu, Option.map_eq_none_iff] at hv
    exact h2 hv
end Go.Proofs.Tryz
end
