/- Texts SdT SdHm, joined; what is not needed is left out. -/
import Derived.Test.YtkkngciaphfifaaGreatMpd
import Derived.Test.YtkkngciaphfifaaGreatMpc
section
namespace Go.Proofs.Tryz
open Go Go.Vm Go.Sort
set_option maxRecDepth 20000
set_option maxHeartbeats 8000000
theorem pick_at {es : List D} {j : Nat} {d : D} {k : D → Prop} (h : es[j]? = some d) (r : k d) : PickE es j k := ⟨d, h, r⟩
def dnF (o : List Sg) (s : Sg) : Bool := o.any fun t => t.n == s.n
theorem dnF_not {o : List Sg} {s : Sg} : dnF o s = false ↔ ∀ t ∈ o, t.n ≠ s.n := by simp [dnF]
theorem set_map {α : Type} {f g : α → D} {l : List α} {j : Nat} {x : α} {v : D} (hj : l[j]? = some x) (hx : g x = v) (hn : l.Nodup) (ho : ∀ y ∈ l, y ≠ x → g y = f y) : (l.map f).set j v = l.map g := by
  apply List.ext_getElem?
  intro i
  rw [List.getElem?_set, List.getElem?_map, List.getElem?_map, List.length_map]
  by_cases e : j = i
  · subst e
    rw [if_pos rfl, if_pos (List.getElem?_eq_some_iff.1 hj).1, hj]
    simp [hx]
  · rw [if_neg e]
    cases hi : l[i]? with
    | none => rfl
    | some y =>
      have : y ≠ x := by
        rintro rfl
        obtain ⟨a1, a2⟩ := List.getElem?_eq_some_iff.1 hi
        obtain ⟨b1, b2⟩ := List.getElem?_eq_some_iff.1 hj
        rcases Nat.lt_trichotomy j i with h | h | h
        · exact List.pairwise_iff_getElem.1 hn j i b1 a1 h (b2.trans a2.symm)
        · exact e h
        · exact List.pairwise_iff_getElem.1 hn i j a1 b1 h (a2.trans b2.symm)
      simp [ho y (List.mem_of_getElem? hi) this]
theorem noTwo_nodup {l : List Sg} (h : NoTwo l) : l.Nodup := by
  refine List.Pairwise.imp ?_ h
  rintro a b hab rfl
  exact hab rfl
theorem noTwo_perm {l m : List Sg} (hp : l.Perm m) (h : NoTwo l) : NoTwo m := hp.pairwise h (fun hab e => hab e.symm)
theorem pick_min {l : List Sg} (hu : NoTwo l) {n : Nat} {x : Sg} (hx : x ∈ l) (hd : dnF ((sortL cfThin l).take n) x = false) (hm : ∀ y ∈ l, dnF ((sortL cfThin l).take n) y = false → y = x ∨ cfThin x y < 0) : (sortL cfThin l)[n]? = some x := by
  have hT : ∀ x ∈ l, ∀ y ∈ l, ¬ cfThin x y < 0 → ¬ cfThin y x < 0 → x = y := fun a ha b hb h1 h2 => noTwo_eq hu a ha b hb (by rw [cfThin_lt] at h1 h2; omega)
  refine pick_next (lt := fun a b => cfThin a b < 0) (fun a b h1 h2 => by rw [cfThin_lt] at h1 h2; omega) (sortL_perm cfThin l) (sortL_strict swoThin (noTwo_nodup hu) hT) hx (fun h => ?_) fun y hy hyn => hm y hy ?_
  · exact dnF_not.1 hd x h rfl
  · rw [dnF_not]
    intro t ht e
    have := noTwo_eq hu t ((sortL_perm cfThin l).subset (List.mem_of_mem_take ht)) y hy e
    exact hyn (this ▸ ht)
theorem left_one {l : List Sg} (hu : NoTwo l) {n : Nat} (hn : n < l.length) : ∃ y ∈ l, dnF ((sortL cfThin l).take n) y = false := by
  have hl : n < (sortL cfThin l).length := by rw [sortL_len]; exact hn
  have hP : NoTwo (sortL cfThin l) := noTwo_perm (sortL_perm cfThin l).symm hu
  refine ⟨(sortL cfThin l)[n], (sortL_perm cfThin l).subset (List.getElem_mem hl), ?_⟩
  rw [dnF_not]
  intro t ht
  obtain ⟨m, hm, rfl⟩ := List.mem_take_iff_getElem.1 ht
  exact List.pairwise_iff_getElem.1 hP m n (by omega) hl (by omega)
theorem dnF_snoc {o : List Sg} {n : Nat} {x s : Sg} (h : o[n]? = some x) : dnF (o.take (n + 1)) s = (dnF (o.take n) s || x.n == s.n) := by
  rw [take_snoc h, dnF, List.any_append]
  simp [dnF]
theorem sg_pos {s : Sg} (h : sgB s = true) : 0 < s.n := by
  simp only [sgB, outsideB, Bool.and_eq_true, Bool.not_eq_true', Bool.or_eq_false_iff, decide_eq_true_eq, decide_eq_false_iff_not] at h
  omega
theorem rad_in {r : Int} (h : radB r = 0) : outsideB r 0 2000000 = false := by
  unfold radB at h
  cases e : outsideB r 0 2000000 with
  | false => rfl
  | true => rw [e] at h; simp at h
theorem rad_out {r : Int} (h : radB r ≠ 0) : outsideB r 0 2000000 = true ∧ radB r = 2 := by
  unfold radB at *
  cases e : outsideB r 0 2000000 with
  | false => rw [e] at h; simp at h
  | true => simp
theorem gd_zero (r : Int) (l : List Sg) : (l.map fun s => D.int .i64 (gdF (thinO r []).2 s.n)) = List.replicate l.length (D.int .i64 0) := List.map_const' (l := l) (b := D.int .i64 0)
theorem dn_zero (l : List Sg) : (l.map fun s => D.bool (dnF [] s)) = List.replicate l.length (D.bool false) := List.map_const' (l := l) (b := D.bool false)
def MinI (l o : List Sg) (i : Nat) (c : Int) : Prop := (c = -1 ∧ ∀ y ∈ l.take i, dnF o y = true) ∨ ∃ z, 0 ≤ c ∧ c < i ∧ l[c.toNat]? = some z ∧ dnF o z = false ∧ ∀ y ∈ l.take i, dnF o y = false → y = z ∨ cfThin z y < 0
theorem min_done {l o : List Sg} {i : Nat} {c : Int} {s : Sg} (h : MinI l o i c) (hs : l[i]? = some s) (hd : dnF o s = true) : MinI l o (i + 1) c := by
  rcases h with ⟨h1, h2⟩ | ⟨z, h1, h2, h3, h4, h5⟩
  · refine .inl ⟨h1, fun y hy => ?_⟩
    rw [take_snoc hs] at hy
    rcases List.mem_append.1 hy with hy | hy
    · exact h2 y hy
    · rw [List.mem_singleton.1 hy]; exact hd
  · refine .inr ⟨z, h1, by omega, h3, h4, fun y hy hyd => ?_⟩
    rw [take_snoc hs] at hy
    rcases List.mem_append.1 hy with hy | hy
    · exact h5 y hy hyd
    · rw [List.mem_singleton.1 hy, hd] at hyd; cases hyd
theorem min_first {l o : List Sg} {i : Nat} {s : Sg} (h : ∀ y ∈ l.take i, dnF o y = true) (hs : l[i]? = some s) (hd : dnF o s = false) : MinI l o (i + 1) i := by
  refine .inr ⟨s, by omega, by omega, by simpa using hs, hd, fun y hy hyd => ?_⟩
  rw [take_snoc hs] at hy
  rcases List.mem_append.1 hy with hy | hy
  · rw [h y hy] at hyd; cases hyd
  · exact .inl (List.mem_singleton.1 hy)
theorem min_take {l o : List Sg} {i : Nat} {s z : Sg} (h5 : ∀ y ∈ l.take i, dnF o y = false → y = z ∨ cfThin z y < 0) (hs : l[i]? = some s) (hd : dnF o s = false) (hc : cfThin s z < 0) : MinI l o (i + 1) i := by
  refine .inr ⟨s, by omega, by omega, by simpa using hs, hd, fun y hy hyd => ?_⟩
  rw [take_snoc hs] at hy
  rcases List.mem_append.1 hy with hy | hy
  · rcases h5 y hy hyd with rfl | h
    · exact .inr hc
    · rw [cfThin_lt] at *; right; omega
  · exact .inl (List.mem_singleton.1 hy)
theorem min_keep {l o : List Sg} {i : Nat} {c : Int} {s z : Sg} (hu : NoTwo l) (h1 : 0 ≤ c) (h2 : c < i) (h3 : l[c.toNat]? = some z) (h4 : dnF o z = false) (h5 : ∀ y ∈ l.take i, dnF o y = false → y = z ∨ cfThin z y < 0) (hs : l[i]? = some s) (hc : ¬ cfThin s z < 0) : MinI l o (i + 1) c := by
  refine .inr ⟨z, h1, by omega, h3, h4, fun y hy hyd => ?_⟩
  rw [take_snoc hs] at hy
  rcases List.mem_append.1 hy with hy | hy
  · exact h5 y hy hyd
  · rw [List.mem_singleton.1 hy]
    by_cases e : cfThin z s < 0
    · exact .inr e
    · refine .inl (noTwo_eq hu s (List.mem_of_getElem? hs) z (List.mem_of_getElem? h3) ?_)
      rw [cfThin_lt] at e hc; omega
theorem min_end {l : List Sg} (hu : NoTwo l) {n : Nat} {c : Int} (hn : n < l.length) (h : MinI l ((sortL cfThin l).take n) l.length c) : ∃ z, 0 ≤ c ∧ l[c.toNat]? = some z ∧ dnF ((sortL cfThin l).take n) z = false ∧ (sortL cfThin l)[n]? = some z := by
  rcases h with ⟨h1, h2⟩ | ⟨z, h1, h2, h3, h4, h5⟩
  · obtain ⟨y, hy, hd⟩ := left_one hu hn
    rw [List.take_length] at h2
    rw [h2 y hy] at hd; cases hd
  · rw [List.take_length] at h5
    exact ⟨z, h1, h3, h4, pick_min hu (List.mem_of_getElem? h3) h4 h5⟩
theorem far_none {kp : List Sg} {z : Sg} {r : Int} (h : ∀ t ∈ kp, ¬ sqS t z.x z.y ≤ r * r) : kp.findIdx? (fun k => decide (sqS k z.x z.y ≤ r * r)) = none := by
  rw [List.findIdx?_eq_none_iff]
  intro x hx
  simpa using h x hx
theorem far_some {kp : List Sg} {z t : Sg} {r : Int} {k : Nat} (hk : kp[k]? = some t) (h : ∀ t ∈ kp.take k, ¬ sqS t z.x z.y ≤ r * r) (ht : sqS t z.x z.y ≤ r * r) : kp.findIdx? (fun k => decide (sqS k z.x z.y ≤ r * r)) = some k := by
  rw [List.findIdx?_eq_some_iff_getElem]
  obtain ⟨a, b⟩ := List.getElem?_eq_some_iff.1 hk
  refine ⟨a, by rw [b]; simpa using ht, fun j hj => ?_⟩
  have := h kp[j] (List.mem_take_iff_getElem.2 ⟨j, by omega, rfl⟩)
  simpa using this
theorem thinO_snd (r : Int) (o : List Sg) : (∀ s ∈ o, 0 < s.n) → ∀ p ∈ (thinO r o).2, 0 < p.2 := by
  refine list_snoc (P := fun o => (∀ s ∈ o, 0 < s.n) → ∀ p ∈ (thinO r o).2, 0 < p.2) (fun _ k h => (by cases h)) (fun o s ih h p hp => ?_) o
  have h' : ∀ s ∈ o, 0 < s.n := fun s hs => h s (List.mem_append_left _ hs)
  have hk := thinO_sub r o
  rw [thinO_app, thinStep] at hp
  split at hp
  · exact ih h' p hp
  · rename_i k hf
    rcases List.mem_append.1 hp with hp | hp
    · exact ih h' p hp
    · rw [List.mem_singleton.1 hp]; exact h' k (hk k (List.mem_of_find?_eq_some hf))
theorem gdF_nonneg {g : List (Int × Int)} (h : ∀ p ∈ g, 0 < p.2) (n : Int) : 0 ≤ gdF g n := by
  rw [gdF]
  split
  · rename_i p hp
    have := h p (List.mem_of_find?_eq_some hp)
    omega
  · omega
theorem find_num {l : List Sg} {m : Int} (h : m ∈ l.map Sg.n) : ∃ (j : Nat) (s : Sg), findS l m = (j : Int) ∧ l[j]? = some s ∧ s.n = m := by
  obtain ⟨s, hs, rfl⟩ := List.mem_map.1 h
  cases hf : l.findIdx? (fun t => t.n == s.n) with
  | none =>
    have := List.findIdx?_eq_none_iff.1 hf s hs
    simp at this
  | some j =>
    obtain ⟨h1, h2, _⟩ := List.findIdx?_eq_some_iff_getElem.1 hf
    refine ⟨j, l[j], ?_, List.getElem?_eq_getElem h1, by simpa using h2⟩
    rw [findS]; simp only [hf]
theorem filter_yes {p : Int → Bool} {l : List Int} {i : Nat} {m : Int} (h : l[i]? = some m) (hp : p m = true) : (l.take (i + 1)).filter p = (l.take i).filter p ++ [m] := by
  rw [take_snoc h, List.filter_append]; simp [hp]
theorem filter_no {p : Int → Bool} {l : List Int} {i : Nat} {m : Int} (h : l[i]? = some m) (hp : p m = false) : (l.take (i + 1)).filter p = (l.take i).filter p := by
  rw [take_snoc h, List.filter_append]; simp [hp]
theorem ev_ThinR (l : List Sg) (r : Int) : Ev Tryz.prog 31 [.sl 5 (l.map sgD), iD r] (thE (thinRes l r)) := by
  have hlen : (l.map sgD).length = l.length := List.length_map _
  have h1 := ev_CheckSR l
  have h2 := ev_Within r 0 2000000
  by_cases c0 : chkErr sgB Sg.n l = 0
  · rw [thinRes, if_neg (by simpa using c0)]
    rw [c0] at h1
    by_cases r0 : radB r = 0
    · rw [if_neg (by simpa using r0)]
      rw [rad_in r0] at h2
      obtain ⟨hl5, hall, hu⟩ := chk_zero c0
      have hr := rad_bd r0
      have hpl : ∀ g ∈ l, -1000000 ≤ g.x ∧ g.x ≤ 1000000 ∧ -1000000 ≤ g.y ∧ g.y ≤ 1000000 := fun g hg => sg_place (hall g hg)
      have hpos : ∀ s ∈ l, 0 < s.n := fun s hs => sg_pos (hall s hs)
      have hob : ∀ g ∈ sortL cfThin l, g ∈ l := fun g hg => (sortL_perm cfThin l).subset hg
      have hol : (sortL cfThin l).length = l.length := sortL_len _ _
      have htold := thin_told (r := r) hu hpos
      have huo : NoTwo (sortL cfThin l) := noTwo_perm (sortL_perm cfThin l).symm hu
      have hmp1 : List.replicate ((l.map sgD).length : Int).toNat (D.int .i64 0) = l.map fun s => D.int .i64 (gdF (thinO r ((sortL cfThin l).take 0)).2 s.n) := by
        rw [Int.toNat_natCast, hlen]; exact (gd_zero r l).symm
      have hmp2 : List.replicate ((l.map sgD).length : Int).toNat (D.bool false) = l.map fun s => D.bool (dnF ((sortL cfThin l).take 0) s) := by
        rw [Int.toNat_natCast, hlen]; exact (dn_zero l).symm
      refine ev_of_awp tysOk mixed (fn := Tryz.f31) Tryz.func31 rfl rfl rfl ?_
      conv => whnf
      repeat' (first
        | ((with_reducible refine Split.of_true ?_); conv => whnf)
        | ((with_reducible refine Split.of_false ?_); conv => whnf)
        | ((with_reducible refine Split.neg ?_))
        | ((with_reducible refine Split.is_true ?_ ?_); decide; conv => whnf)
        | ((with_reducible refine Split.is_false ?_ ?_); decide; conv => whnf)
        | ((with_reducible refine Split.nez (fun _ => ?_) (fun _ => ?_)) <;> conv => whnf)
        | ((with_reducible refine Split.eqz (fun _ => ?_) (fun _ => ?_)) <;> conv => whnf)
        | ((with_reducible refine Split.and ?_))
        | ((with_reducible refine Split.or ?_))
        | ((with_reducible refine Split.streq (fun _ => ?_) (fun _ => ?_)) <;> conv => whnf)
        | ((with_reducible refine Split.dec (fun _ => ?_) (fun _ => ?_)) <;> conv => whnf)
        | ((with_reducible refine Split.mk (fun _ => ?_) (fun _ => ?_)) <;> conv => whnf)
        | ((with_reducible refine NilK.mk (fun _ => ?_) ?_) <;> conv => whnf)
        | ((with_reducible refine AltK.l ?_); (conv => whnf); (with_reducible refine Need.mk ?_ ?_); (first | omega | (refine ⟨?_, ?_⟩ <;> simp <;> omega) | (simp; omega)); conv => whnf)
        | ((with_reducible refine Need.mk ?_ ?_); (first | omega | rfl | decide | (refine ⟨?_, ?_⟩ <;> simp <;> omega) | (simp; omega)); conv => whnf)
        | ((with_reducible refine Wr.quo ?_ ?_ ?_ ?_); omega; omega; omega; conv => whnf)
        | ((with_reducible refine Wr.inr ?_ ?_); (first | omega | (simp; omega)); conv => whnf)
        | ((with_reducible refine Wr.inu ?_ ?_); omega; conv => whnf)
        | ((with_reducible refine AltK.l ?_); (conv => whnf); (first | (refine CallK.mk _ (h1) ?_) | (refine CallK.mk _ (h2) ?_)); conv => whnf)
        | (exfalso; first | omega | contradiction))
      refine LoopK.o2 (fun n : Nat => n ≤ l.length) (fun n => [(7, .own 200 5 ((thinO r ((sortL cfThin l).take n)).1.map sgD).length), (10, .d (.int .i64 n))])
        (fun n => [(200, .row 36 5 ((thinO r ((sortL cfThin l).take n)).1.map sgD) false), (31, .row 3 1 (l.map fun s => .int .i64 (gdF (thinO r ((sortL cfThin l).take n)).2 s.n)) false), (34, .row 4 1 (l.map fun s => .bool (dnF ((sortL cfThin l).take n) s)) false)]) (fun n => l.length - n) 0 (by simp) (by refine ⟨?_, ?_, rfl⟩ <;> (repeat' (first | exact True.intro | exact rfl | refine ⟨?_, ?_⟩ | (intro h; cases h; done) | (intro h; exact h) | exact map_snoc | (refine own_congr ?_; simp; done) | (refine int_congr ?_; (first | omega | (simp; omega))) | (simp; done) | exact hmp1 | exact hmp2 | ((first | refine own_congr ?_ | refine int_congr ?_ | skip); simp [thinO]; done) | ((first | refine own_congr ?_ | refine int_congr ?_); simp [thinO]; omega) | (show @Eq (List Go.Vm.D) _ []; simp [thinO]; done) | (simp [D.cells, thinO]; done)))) ?_
      rintro n hn
      conv => whnf
      repeat' (first
        | ((with_reducible refine Split.of_true ?_); conv => whnf)
        | ((with_reducible refine Split.of_false ?_); conv => whnf)
        | ((with_reducible refine Split.neg ?_))
        | ((with_reducible refine Split.is_true ?_ ?_); decide; conv => whnf)
        | ((with_reducible refine Split.is_false ?_ ?_); decide; conv => whnf)
        | ((with_reducible refine Split.nez (fun _ => ?_) (fun _ => ?_)) <;> conv => whnf)
        | ((with_reducible refine Split.eqz (fun _ => ?_) (fun _ => ?_)) <;> conv => whnf)
        | ((with_reducible refine Split.and ?_))
        | ((with_reducible refine Split.or ?_))
        | ((with_reducible refine Split.streq (fun _ => ?_) (fun _ => ?_)) <;> conv => whnf)
        | ((with_reducible refine Split.dec (fun _ => ?_) (fun _ => ?_)) <;> conv => whnf)
        | ((with_reducible refine Split.mk (fun _ => ?_) (fun _ => ?_)) <;> conv => whnf)
        | ((with_reducible refine NilK.mk (fun _ => ?_) ?_) <;> conv => whnf)
        | ((with_reducible refine AltK.l ?_); (conv => whnf); (with_reducible refine Need.mk ?_ ?_); (first | omega | (refine ⟨?_, ?_⟩ <;> simp <;> omega) | (simp; omega)); conv => whnf)
        | ((with_reducible refine Need.mk ?_ ?_); (first | omega | rfl | decide | (refine ⟨?_, ?_⟩ <;> simp <;> omega) | (simp; omega)); conv => whnf)
        | ((with_reducible refine Wr.quo ?_ ?_ ?_ ?_); omega; omega; omega; conv => whnf)
        | ((with_reducible refine Wr.inr ?_ ?_); (first | omega | (simp; omega)); conv => whnf)
        | ((with_reducible refine Wr.inu ?_ ?_); omega; conv => whnf)
        | (exfalso; first | omega | contradiction))
      · refine LoopK.o2 (fun x : Nat × Int => x.1 ≤ l.length ∧ MinI l ((sortL cfThin l).take n) x.1 x.2) (fun x => [(12, .d (.int .i64 x.1)), (11, .d (.int .i64 x.2))]) (fun _ => []) (fun x => l.length - x.1) (0, -1) ⟨by omega, .inl ⟨rfl, fun y hy => by simp at hy⟩⟩ (by refine ⟨?_, ?_, rfl⟩ <;> (repeat' (first | exact True.intro | exact rfl | refine ⟨?_, ?_⟩ | (intro h; cases h; done) | (intro h; exact h) | exact map_snoc | (refine own_congr ?_; simp; done) | (refine int_congr ?_; (first | omega | (simp; omega))) | (simp; done)))) ?_
        rintro ⟨i, c⟩ ⟨hi, hM⟩
        dsimp only at hi hM
        have hnx : (i : Int) < l.length → ∃ m, l[i]? = some m := fun h => some_of_lt (by omega)
        conv => whnf
        repeat' (first
          | ((with_reducible refine Split.of_true ?_); conv => whnf)
          | ((with_reducible refine Split.of_false ?_); conv => whnf)
          | ((with_reducible refine Split.neg ?_))
          | ((with_reducible refine Split.is_true ?_ ?_); decide; conv => whnf)
          | ((with_reducible refine Split.is_false ?_ ?_); decide; conv => whnf)
          | ((with_reducible refine Split.nez (fun _ => ?_) (fun _ => ?_)) <;> conv => whnf)
          | ((with_reducible refine Split.eqz (fun _ => ?_) (fun _ => ?_)) <;> conv => whnf)
          | ((with_reducible refine Split.and ?_))
          | ((with_reducible refine Split.or ?_))
          | ((with_reducible refine Split.streq (fun _ => ?_) (fun _ => ?_)) <;> conv => whnf)
          | ((with_reducible refine Split.dec (fun _ => ?_) (fun _ => ?_)) <;> conv => whnf)
          | ((with_reducible refine Split.mk (fun _ => ?_) (fun _ => ?_)) <;> conv => whnf)
          | ((with_reducible refine NilK.mk (fun _ => ?_) ?_) <;> conv => whnf)
          | ((with_reducible refine AltK.l ?_); (conv => whnf); (with_reducible refine Need.mk ?_ ?_); (first | omega | (refine ⟨?_, ?_⟩ <;> simp <;> omega) | (simp; omega)); conv => whnf)
          | ((with_reducible refine Need.mk ?_ ?_); (first | omega | rfl | decide | (refine ⟨?_, ?_⟩ <;> simp <;> omega) | (simp; omega)); conv => whnf)
          | ((with_reducible refine Wr.quo ?_ ?_ ?_ ?_); omega; omega; omega; conv => whnf)
          | ((with_reducible refine Wr.inr ?_ ?_); (first | omega | (simp; omega)); conv => whnf)
          | ((with_reducible refine Wr.inu ?_ ?_); omega; conv => whnf)
          | (exfalso; first | omega | contradiction))
        · obtain ⟨s, hs⟩ := hnx (by omega)
          have hM0 := hM
          rcases hM with ⟨rfl, hM⟩ | ⟨z, g1, g2, g3, g4, g5⟩
          · conv => whnf
            repeat' (first
              | ((refine PickE.map i hs (by omega) ?_); conv => whnf)
              | ((with_reducible refine Split.of_true ?_); conv => whnf)
              | ((with_reducible refine Split.of_false ?_); conv => whnf)
              | ((with_reducible refine Split.neg ?_))
              | ((with_reducible refine Split.is_true ?_ ?_); decide; conv => whnf)
              | ((with_reducible refine Split.is_false ?_ ?_); decide; conv => whnf)
              | ((with_reducible refine Split.nez (fun _ => ?_) (fun _ => ?_)) <;> conv => whnf)
              | ((with_reducible refine Split.eqz (fun _ => ?_) (fun _ => ?_)) <;> conv => whnf)
              | ((with_reducible refine Split.and ?_))
              | ((with_reducible refine Split.or ?_))
              | ((with_reducible refine Split.streq (fun _ => ?_) (fun _ => ?_)) <;> conv => whnf)
              | ((with_reducible refine Split.dec (fun _ => ?_) (fun _ => ?_)) <;> conv => whnf)
              | ((with_reducible refine Split.mk (fun _ => ?_) (fun _ => ?_)) <;> conv => whnf)
              | ((with_reducible refine NilK.mk (fun _ => ?_) ?_) <;> conv => whnf)
              | ((with_reducible refine AltK.l ?_); (conv => whnf); (with_reducible refine Need.mk ?_ ?_); (first | omega | (refine ⟨?_, ?_⟩ <;> simp <;> omega) | (simp; omega)); conv => whnf)
              | ((with_reducible refine Need.mk ?_ ?_); (first | omega | rfl | decide | (refine ⟨?_, ?_⟩ <;> simp <;> omega) | (simp; omega)); conv => whnf)
              | ((with_reducible refine Wr.quo ?_ ?_ ?_ ?_); omega; omega; omega; conv => whnf)
              | ((with_reducible refine Wr.inr ?_ ?_); (first | omega | (simp; omega)); conv => whnf)
              | ((with_reducible refine Wr.inu ?_ ?_); omega; conv => whnf)
              | (exfalso; first | omega | contradiction))
            · exact Again.au (i + 1, -1) ⟨by dsimp only at *; omega, min_done hM0 hs (by assumption)⟩ (by dsimp only at *; omega) (by refine ⟨?_, ?_, rfl⟩ <;> (repeat' (first | exact True.intro | exact rfl | refine ⟨?_, ?_⟩ | (intro h; cases h; done) | (intro h; exact h) | exact map_snoc | (refine own_congr ?_; simp; done) | (refine int_congr ?_; (first | omega | (simp; omega))) | (simp; done))))
            · exact Again.au (i + 1, (i : Int)) ⟨by dsimp only at *; omega, min_first hM hs (by assumption)⟩ (by dsimp only at *; omega) (by refine ⟨?_, ?_, rfl⟩ <;> (repeat' (first | exact True.intro | exact rfl | refine ⟨?_, ?_⟩ | (intro h; cases h; done) | (intro h; exact h) | exact map_snoc | (refine own_congr ?_; simp; done) | (refine int_congr ?_; (first | omega | (simp; omega))) | (simp; done))))
          · have h3 := ev_sooner s z
            conv => whnf
            repeat' (first
              | ((refine PickE.map c.toNat g3 (by omega) ?_); conv => whnf)
              | ((refine PickE.map i hs (by omega) ?_); conv => whnf)
              | ((with_reducible refine Split.of_true ?_); conv => whnf)
              | ((with_reducible refine Split.of_false ?_); conv => whnf)
              | ((with_reducible refine Split.neg ?_))
              | ((with_reducible refine Split.is_true ?_ ?_); decide; conv => whnf)
              | ((with_reducible refine Split.is_false ?_ ?_); decide; conv => whnf)
              | ((with_reducible refine Split.nez (fun _ => ?_) (fun _ => ?_)) <;> conv => whnf)
              | ((with_reducible refine Split.eqz (fun _ => ?_) (fun _ => ?_)) <;> conv => whnf)
              | ((with_reducible refine Split.and ?_))
              | ((with_reducible refine Split.or ?_))
              | ((with_reducible refine Split.streq (fun _ => ?_) (fun _ => ?_)) <;> conv => whnf)
              | ((with_reducible refine Split.dec (fun _ => ?_) (fun _ => ?_)) <;> conv => whnf)
              | ((with_reducible refine Split.mk (fun _ => ?_) (fun _ => ?_)) <;> conv => whnf)
              | ((with_reducible refine NilK.mk (fun _ => ?_) ?_) <;> conv => whnf)
              | ((with_reducible refine AltK.l ?_); (conv => whnf); (with_reducible refine Need.mk ?_ ?_); (first | omega | (refine ⟨?_, ?_⟩ <;> simp <;> omega) | (simp; omega)); conv => whnf)
              | ((with_reducible refine Need.mk ?_ ?_); (first | omega | rfl | decide | (refine ⟨?_, ?_⟩ <;> simp <;> omega) | (simp; omega)); conv => whnf)
              | ((with_reducible refine Wr.quo ?_ ?_ ?_ ?_); omega; omega; omega; conv => whnf)
              | ((with_reducible refine Wr.inr ?_ ?_); (first | omega | (simp; omega)); conv => whnf)
              | ((with_reducible refine Wr.inu ?_ ?_); omega; conv => whnf)
              | ((with_reducible refine AltK.l ?_); (conv => whnf); (first | (refine CallK.mk _ (h3) ?_)); conv => whnf)
              | (exfalso; first | omega | contradiction))
            · exact Again.au (i + 1, c) ⟨by dsimp only at *; omega, min_done hM0 hs (by assumption)⟩ (by dsimp only at *; omega) (by refine ⟨?_, ?_, rfl⟩ <;> (repeat' (first | exact True.intro | exact rfl | refine ⟨?_, ?_⟩ | (intro h; cases h; done) | (intro h; exact h) | exact map_snoc | (refine own_congr ?_; simp; done) | (refine int_congr ?_; (first | omega | (simp; omega))) | (simp; done))))
            · exact Again.au (i + 1, (i : Int)) ⟨by dsimp only at *; omega, min_take g5 hs (by assumption) (by assumption)⟩ (by dsimp only at *; omega) (by refine ⟨?_, ?_, rfl⟩ <;> (repeat' (first | exact True.intro | exact rfl | refine ⟨?_, ?_⟩ | (intro h; cases h; done) | (intro h; exact h) | exact map_snoc | (refine own_congr ?_; simp; done) | (refine int_congr ?_; (first | omega | (simp; omega))) | (simp; done))))
            · exact Again.au (i + 1, c) ⟨by dsimp only at *; omega, min_keep hu g1 g2 g3 g4 g5 hs (by assumption)⟩ (by dsimp only at *; omega) (by refine ⟨?_, ?_, rfl⟩ <;> (repeat' (first | exact True.intro | exact rfl | refine ⟨?_, ?_⟩ | (intro h; cases h; done) | (intro h; exact h) | exact map_snoc | (refine own_congr ?_; simp; done) | (refine int_congr ?_; (first | omega | (simp; omega))) | (simp; done))))
        · have ei : i = l.length := by dsimp only at *; omega
          rw [ei] at hM
          obtain ⟨z, g1, g3, g4, g6⟩ := min_end hu (by omega) hM
          have hz := List.mem_of_getElem? g3
          have hcl : c.toNat < l.length := (List.getElem?_eq_some_iff.1 g3).1
          have hst := thinO_snoc r g6
          have hun : NoTwo ((sortL cfThin l).take n ++ [z]) := by rw [← take_snoc g6]; exact huo.sublist (List.take_sublist _ _)
          have hnew := thin_new (r := r) hun
          have hsub : ∀ k ∈ (thinO r ((sortL cfThin l).take n)).1, k ∈ l := fun k hk => hob k (List.mem_of_mem_take (thinO_sub r _ k hk))
          have hkl := thinO_len r ((sortL cfThin l).take n)
          rw [List.length_take] at hkl
          generalize thinO r ((sortL cfThin l).take n) = q at *
          obtain ⟨kp, gs⟩ := q
          dsimp only at hst hnew hsub hkl ⊢
          have hmp3 : (l.map fun s => D.int .i64 (gdF gs s.n)) = (l.map fun s => D.int .i64 (gdF gs s.n)).set c.toNat (.int .i64 0) := (set_map g3 (by rw [gdF_none hnew]) (noTwo_nodup hu) fun _ _ _ => rfl).symm
          have hG : ∀ v : Int, ((l.map fun s => D.int .i64 (gdF gs s.n)).set c.toNat (.int .i64 v))[c.toNat]? = some (.int .i64 v) := fun v => by rw [List.getElem?_set]; simp [hcl]
          have hrr := mul_bd (x := r) (y := r) (X := 2000000) (Y := 2000000) (by omega) (by omega)
          conv => whnf
          repeat' (first
            | ((refine PickE.map c.toNat g3 (by omega) ?_); conv => whnf)
            | ((with_reducible refine Split.of_true ?_); conv => whnf)
            | ((with_reducible refine Split.of_false ?_); conv => whnf)
            | ((with_reducible refine Split.neg ?_))
            | ((with_reducible refine Split.is_true ?_ ?_); decide; conv => whnf)
            | ((with_reducible refine Split.is_false ?_ ?_); decide; conv => whnf)
            | ((with_reducible refine Split.nez (fun _ => ?_) (fun _ => ?_)) <;> conv => whnf)
            | ((with_reducible refine Split.eqz (fun _ => ?_) (fun _ => ?_)) <;> conv => whnf)
            | ((with_reducible refine Split.and ?_))
            | ((with_reducible refine Split.or ?_))
            | ((with_reducible refine Split.streq (fun _ => ?_) (fun _ => ?_)) <;> conv => whnf)
            | ((with_reducible refine Split.dec (fun _ => ?_) (fun _ => ?_)) <;> conv => whnf)
            | ((with_reducible refine Split.mk (fun _ => ?_) (fun _ => ?_)) <;> conv => whnf)
            | ((with_reducible refine NilK.mk (fun _ => ?_) ?_) <;> conv => whnf)
            | ((with_reducible refine AltK.l ?_); (conv => whnf); (with_reducible refine Need.mk ?_ ?_); (first | omega | (refine ⟨?_, ?_⟩ <;> simp <;> omega) | (simp; omega)); conv => whnf)
            | ((with_reducible refine Need.mk ?_ ?_); (first | omega | rfl | decide | (refine ⟨?_, ?_⟩ <;> simp <;> omega) | (simp; omega)); conv => whnf)
            | ((with_reducible refine Wr.quo ?_ ?_ ?_ ?_); omega; omega; omega; conv => whnf)
            | ((with_reducible refine Wr.inr ?_ ?_); (first | omega | (simp; omega)); conv => whnf)
            | ((with_reducible refine Wr.inu ?_ ?_); omega; conv => whnf)
            | (exfalso; first | omega | contradiction))
          refine LoopK.o2 (fun x : Nat × Int => x.1 ≤ kp.length ∧ ((x.2 = 0 ∧ ∀ t ∈ kp.take x.1, ¬ sqS t z.x z.y ≤ r * r) ∨ ∃ q t, kp.findIdx? (fun k => decide (sqS k z.x z.y ≤ r * r)) = some q ∧ kp[q]? = some t ∧ x.2 = t.n)) (fun x => [(13, .d (.int .i64 x.1))])
            (fun x => [(31, .row 3 1 ((l.map fun s => .int .i64 (gdF gs s.n)).set c.toNat (.int .i64 x.2)) false)]) (fun x => kp.length - x.1) (0, 0) ⟨by simp, .inl ⟨rfl, fun t ht => by simp at ht⟩⟩ (by refine ⟨?_, ?_, rfl⟩ <;> (repeat' (first | exact True.intro | exact rfl | refine ⟨?_, ?_⟩ | (intro h; cases h; done) | (intro h; exact h) | exact map_snoc | (refine own_congr ?_; simp; done) | (refine int_congr ?_; (first | omega | (simp; omega))) | (simp; done) | exact hmp3 | ((first | refine own_congr ?_ | refine int_congr ?_ | skip); simp [D.cells]; done) | ((first | refine own_congr ?_ | refine int_congr ?_); simp [D.cells]; omega) | (show @Eq (List Go.Vm.D) _ []; simp [D.cells]; done) | (simp [D.cells, D.cells]; done)))) ?_
          rintro ⟨k, v⟩ ⟨hk, hv⟩
          dsimp only at hk hv
          have ek : (kp.map sgD).length = kp.length := List.length_map _
          have hcN : ∀ v : Int, 0 ≤ c ∧ c < (((l.map fun s => D.int .i64 (gdF gs s.n)).set c.toNat (.int .i64 v)).length : Int) := fun v => by rw [List.length_set, List.length_map]; omega
          have hmp5 : ((l.map fun s => D.bool (dnF ((sortL cfThin l).take n) s)).set c.toNat (.bool true)) = l.map fun s => D.bool (dnF ((sortL cfThin l).take (n + 1)) s) := by
            refine set_map g3 (by rw [dnF_snoc g6]; simp) (noTwo_nodup hu) fun y hy hyz => ?_
            have : (z.n == y.n) = false := by
              simp only [beq_eq_false_iff_ne]
              exact fun e => hyz (noTwo_eq hu y hy z hz e.symm)
            rw [dnF_snoc g6, this, Bool.or_false]
          rcases hv with ⟨rfl, hvv⟩ | ⟨q, t, hq1, hq2, rfl⟩
          · by_cases hkl2 : k < kp.length
            · obtain ⟨t, ht⟩ := some_of_lt hkl2
              have h4 := ev_apart t z (hpl t (hsub t (List.mem_of_getElem? ht))) (hpl z hz)
              conv => whnf
              repeat' (first
                | ((with_reducible refine pick_at (hG 0) ?_); conv => whnf)
                | ((refine PickE.map k ht (by omega) ?_); conv => whnf)
                | ((refine PickE.map c.toNat g3 (by omega) ?_); conv => whnf)
                | ((with_reducible refine Need.mk (hcN 0) ?_); conv => whnf)
                | ((with_reducible refine Split.of_true ?_); conv => whnf)
                | ((with_reducible refine Split.of_false ?_); conv => whnf)
                | ((with_reducible refine Split.neg ?_))
                | ((with_reducible refine Split.is_true ?_ ?_); decide; conv => whnf)
                | ((with_reducible refine Split.is_false ?_ ?_); decide; conv => whnf)
                | ((with_reducible refine Split.nez (fun _ => ?_) (fun _ => ?_)) <;> conv => whnf)
                | ((with_reducible refine Split.eqz (fun _ => ?_) (fun _ => ?_)) <;> conv => whnf)
                | ((with_reducible refine Split.and ?_))
                | ((with_reducible refine Split.or ?_))
                | ((with_reducible refine Split.streq (fun _ => ?_) (fun _ => ?_)) <;> conv => whnf)
                | ((with_reducible refine Split.dec (fun _ => ?_) (fun _ => ?_)) <;> conv => whnf)
                | ((with_reducible refine Split.mk (fun _ => ?_) (fun _ => ?_)) <;> conv => whnf)
                | ((with_reducible refine NilK.mk (fun _ => ?_) ?_) <;> conv => whnf)
                | ((with_reducible refine AltK.l ?_); (conv => whnf); (with_reducible refine Need.mk ?_ ?_); (first | omega | (refine ⟨?_, ?_⟩ <;> simp <;> omega) | (simp; omega)); conv => whnf)
                | ((with_reducible refine Need.mk ?_ ?_); (first | omega | rfl | decide | (refine ⟨?_, ?_⟩ <;> simp <;> omega) | (simp; omega)); conv => whnf)
                | ((with_reducible refine Wr.quo ?_ ?_ ?_ ?_); omega; omega; omega; conv => whnf)
                | ((with_reducible refine Wr.inr ?_ ?_); (first | omega | (simp; omega)); conv => whnf)
                | ((with_reducible refine Wr.inu ?_ ?_); omega; conv => whnf)
                | ((with_reducible refine AltK.l ?_); (conv => whnf); (first | (refine CallK.mk _ (h4) ?_)); conv => whnf)
                | (exfalso; first | omega | contradiction))
              · have hmp6 : ((l.map fun s => D.int .i64 (gdF gs s.n)).set c.toNat (.int .i64 0)).set c.toNat (iD t.n) = (l.map fun s => D.int .i64 (gdF gs s.n)).set c.toNat (.int .i64 t.n) := List.set_set ..
                exact Again.au (k + 1, t.n) ⟨by dsimp only; omega, .inr ⟨k, t, far_some ht hvv (by assumption), ht, rfl⟩⟩ (by dsimp only; omega) (by refine ⟨?_, ?_, rfl⟩ <;> (repeat' (first | exact True.intro | exact rfl | refine ⟨?_, ?_⟩ | (intro h; cases h; done) | (intro h; exact h) | exact map_snoc | (refine own_congr ?_; simp; done) | (refine int_congr ?_; (first | omega | (simp; omega))) | (simp; done) | exact hmp6 | ((first | refine own_congr ?_ | refine int_congr ?_ | skip); simp [D.cells]; done) | ((first | refine own_congr ?_ | refine int_congr ?_); simp [D.cells]; omega) | (show @Eq (List Go.Vm.D) _ []; simp [D.cells]; done) | (simp [D.cells, D.cells]; done))))
              · refine Again.au (k + 1, 0) ⟨by dsimp only; omega, .inl ⟨rfl, fun y hy => ?_⟩⟩ (by dsimp only; omega) (by refine ⟨?_, ?_, rfl⟩ <;> (repeat' (first | exact True.intro | exact rfl | refine ⟨?_, ?_⟩ | (intro h; cases h; done) | (intro h; exact h) | exact map_snoc | (refine own_congr ?_; simp; done) | (refine int_congr ?_; (first | omega | (simp; omega))) | (simp; done))))
                dsimp only at hy
                rw [take_snoc ht] at hy
                rcases List.mem_append.1 hy with hy | hy
                · exact hvv y hy
                · rw [List.mem_singleton.1 hy]; assumption
            · have hfn := far_none (kp := kp) (z := z) (r := r) (by rw [← List.take_of_length_le (show kp.length ≤ k by omega)]; exact hvv)
              rw [thinStep_none hfn] at hst
              have hmp4 : ((l.map fun s => D.int .i64 (gdF gs s.n)).set c.toNat (.int .i64 0)) = l.map fun s => D.int .i64 (gdF (thinO r ((sortL cfThin l).take (n + 1))).2 s.n) := by rw [hst]; exact hmp3.symm
              conv => whnf
              repeat' (first
                | ((with_reducible refine pick_at (hG 0) ?_); conv => whnf)
                | ((refine PickE.map c.toNat g3 (by omega) ?_); conv => whnf)
                | ((with_reducible refine Need.mk (hcN 0) ?_); conv => whnf)
                | ((with_reducible refine Split.of_true ?_); conv => whnf)
                | ((with_reducible refine Split.of_false ?_); conv => whnf)
                | ((with_reducible refine Split.neg ?_))
                | ((with_reducible refine Split.is_true ?_ ?_); decide; conv => whnf)
                | ((with_reducible refine Split.is_false ?_ ?_); decide; conv => whnf)
                | ((with_reducible refine Split.nez (fun _ => ?_) (fun _ => ?_)) <;> conv => whnf)
                | ((with_reducible refine Split.eqz (fun _ => ?_) (fun _ => ?_)) <;> conv => whnf)
                | ((with_reducible refine Split.and ?_))
                | ((with_reducible refine Split.or ?_))
                | ((with_reducible refine Split.streq (fun _ => ?_) (fun _ => ?_)) <;> conv => whnf)
                | ((with_reducible refine Split.dec (fun _ => ?_) (fun _ => ?_)) <;> conv => whnf)
                | ((with_reducible refine Split.mk (fun _ => ?_) (fun _ => ?_)) <;> conv => whnf)
                | ((with_reducible refine NilK.mk (fun _ => ?_) ?_) <;> conv => whnf)
                | ((with_reducible refine AltK.l ?_); (conv => whnf); (with_reducible refine Need.mk ?_ ?_); (first | omega | (refine ⟨?_, ?_⟩ <;> simp <;> omega) | (simp; omega)); conv => whnf)
                | ((with_reducible refine Need.mk ?_ ?_); (first | omega | rfl | decide | (refine ⟨?_, ?_⟩ <;> simp <;> omega) | (simp; omega)); conv => whnf)
                | ((with_reducible refine Wr.quo ?_ ?_ ?_ ?_); omega; omega; omega; conv => whnf)
                | ((with_reducible refine Wr.inr ?_ ?_); (first | omega | (simp; omega)); conv => whnf)
                | ((with_reducible refine Wr.inu ?_ ?_); omega; conv => whnf)
                | (exfalso; first | omega | contradiction))
              exact Again.au (n + 1) (by omega) (by omega) (by refine ⟨?_, ?_, rfl⟩ <;> (repeat' (first | exact True.intro | exact rfl | refine ⟨?_, ?_⟩ | (intro h; cases h; done) | (intro h; exact h) | exact map_snoc | (refine own_congr ?_; simp; done) | (refine int_congr ?_; (first | omega | (simp; omega))) | (simp; done) | exact hmp4 | exact hmp5 | ((first | refine own_congr ?_ | refine int_congr ?_ | skip); simp [hst,sgD]; done) | ((first | refine own_congr ?_ | refine int_congr ?_); simp [hst,sgD]; omega) | (show @Eq (List Go.Vm.D) _ []; simp [hst,sgD]; done) | (simp [D.cells, hst,sgD]; done))))
          · obtain ⟨t', ht', hst2⟩ := thinStep_some (gs := gs) hq1
            rw [hq2] at ht'
            cases ht'
            rw [hst2] at hst
            have htp := hpos t (hsub t (List.mem_of_getElem? hq2))
            have hmp4 : ((l.map fun s => D.int .i64 (gdF gs s.n)).set c.toNat (.int .i64 t.n)) = l.map fun s => D.int .i64 (gdF (thinO r ((sortL cfThin l).take (n + 1))).2 s.n) := by
              rw [hst]
              refine set_map g3 (by rw [gdF_last hnew]) (noTwo_nodup hu) fun y hy hyz => ?_
              rw [gdF_snoc fun e => hyz (noTwo_eq hu y hy z hz e.symm)]
            conv => whnf
            repeat' (first
              | ((with_reducible refine pick_at (hG t.n) ?_); conv => whnf)
              | ((refine PickE.map c.toNat g3 (by omega) ?_); conv => whnf)
              | ((with_reducible refine Need.mk (hcN t.n) ?_); conv => whnf)
              | ((with_reducible refine Split.of_true ?_); conv => whnf)
              | ((with_reducible refine Split.of_false ?_); conv => whnf)
              | ((with_reducible refine Split.neg ?_))
              | ((with_reducible refine Split.is_true ?_ ?_); decide; conv => whnf)
              | ((with_reducible refine Split.is_false ?_ ?_); decide; conv => whnf)
              | ((with_reducible refine Split.nez (fun _ => ?_) (fun _ => ?_)) <;> conv => whnf)
              | ((with_reducible refine Split.eqz (fun _ => ?_) (fun _ => ?_)) <;> conv => whnf)
              | ((with_reducible refine Split.and ?_))
              | ((with_reducible refine Split.or ?_))
              | ((with_reducible refine Split.streq (fun _ => ?_) (fun _ => ?_)) <;> conv => whnf)
              | ((with_reducible refine Split.dec (fun _ => ?_) (fun _ => ?_)) <;> conv => whnf)
              | ((with_reducible refine Split.mk (fun _ => ?_) (fun _ => ?_)) <;> conv => whnf)
              | ((with_reducible refine NilK.mk (fun _ => ?_) ?_) <;> conv => whnf)
              | ((with_reducible refine AltK.l ?_); (conv => whnf); (with_reducible refine Need.mk ?_ ?_); (first | omega | (refine ⟨?_, ?_⟩ <;> simp <;> omega) | (simp; omega)); conv => whnf)
              | ((with_reducible refine Need.mk ?_ ?_); (first | omega | rfl | decide | (refine ⟨?_, ?_⟩ <;> simp <;> omega) | (simp; omega)); conv => whnf)
              | ((with_reducible refine Wr.quo ?_ ?_ ?_ ?_); omega; omega; omega; conv => whnf)
              | ((with_reducible refine Wr.inr ?_ ?_); (first | omega | (simp; omega)); conv => whnf)
              | ((with_reducible refine Wr.inu ?_ ?_); omega; conv => whnf)
              | (exfalso; first | omega | contradiction))
            all_goals exact Again.au (n + 1) (by omega) (by omega) (by refine ⟨?_, ?_, rfl⟩ <;> (repeat' (first | exact True.intro | exact rfl | refine ⟨?_, ?_⟩ | (intro h; cases h; done) | (intro h; exact h) | exact map_snoc | (refine own_congr ?_; simp; done) | (refine int_congr ?_; (first | omega | (simp; omega))) | (simp; done) | exact hmp4 | exact hmp5 | ((first | refine own_congr ?_ | refine int_congr ?_ | skip); simp [hst]; done) | ((first | refine own_congr ?_ | refine int_congr ?_); simp [hst]; omega) | (show @Eq (List Go.Vm.D) _ []; simp [hst]; done) | (simp [D.cells, hst]; done))))
      · have en : (sortL cfThin l).take n = sortL cfThin l := List.take_of_length_le (by omega)
        rw [en]
        refine LoopK.o2 (fun i : Nat => i ≤ l.length) (fun i => [(15, .own 201 1 (((l.take i).map Sg.n).map iD).length), (16, .d (.int .i64 i))]) (fun i => [(201, .row 3 1 (((l.take i).map Sg.n).map iD) false)]) (fun i => l.length - i) 0 (by simp) (by refine ⟨?_, ?_, rfl⟩ <;> (repeat' (first | exact True.intro | exact rfl | refine ⟨?_, ?_⟩ | (intro h; cases h; done) | (intro h; exact h) | exact map_snoc | (refine own_congr ?_; simp; done) | (refine int_congr ?_; (first | omega | (simp; omega))) | (simp; done)))) ?_
        rintro i hi
        have hnx : (i : Int) < l.length → ∃ m, l[i]? = some m := fun h => some_of_lt (by omega)
        conv => whnf
        repeat' (first
          | ((with_reducible refine Split.of_true ?_); conv => whnf)
          | ((with_reducible refine Split.of_false ?_); conv => whnf)
          | ((with_reducible refine Split.neg ?_))
          | ((with_reducible refine Split.is_true ?_ ?_); decide; conv => whnf)
          | ((with_reducible refine Split.is_false ?_ ?_); decide; conv => whnf)
          | ((with_reducible refine Split.nez (fun _ => ?_) (fun _ => ?_)) <;> conv => whnf)
          | ((with_reducible refine Split.eqz (fun _ => ?_) (fun _ => ?_)) <;> conv => whnf)
          | ((with_reducible refine Split.and ?_))
          | ((with_reducible refine Split.or ?_))
          | ((with_reducible refine Split.streq (fun _ => ?_) (fun _ => ?_)) <;> conv => whnf)
          | ((with_reducible refine Split.dec (fun _ => ?_) (fun _ => ?_)) <;> conv => whnf)
          | ((with_reducible refine Split.mk (fun _ => ?_) (fun _ => ?_)) <;> conv => whnf)
          | ((with_reducible refine NilK.mk (fun _ => ?_) ?_) <;> conv => whnf)
          | ((with_reducible refine AltK.l ?_); (conv => whnf); (with_reducible refine Need.mk ?_ ?_); (first | omega | (refine ⟨?_, ?_⟩ <;> simp <;> omega) | (simp; omega)); conv => whnf)
          | ((with_reducible refine Need.mk ?_ ?_); (first | omega | rfl | decide | (refine ⟨?_, ?_⟩ <;> simp <;> omega) | (simp; omega)); conv => whnf)
          | ((with_reducible refine Wr.quo ?_ ?_ ?_ ?_); omega; omega; omega; conv => whnf)
          | ((with_reducible refine Wr.inr ?_ ?_); (first | omega | (simp; omega)); conv => whnf)
          | ((with_reducible refine Wr.inu ?_ ?_); omega; conv => whnf)
          | (exfalso; first | omega | contradiction))
        · obtain ⟨s, hs⟩ := hnx (by omega)
          have hst := take_snoc hs
          conv => whnf
          repeat' (first
            | ((refine PickE.map i hs (by omega) ?_); conv => whnf)
            | ((with_reducible refine Split.of_true ?_); conv => whnf)
            | ((with_reducible refine Split.of_false ?_); conv => whnf)
            | ((with_reducible refine Split.neg ?_))
            | ((with_reducible refine Split.is_true ?_ ?_); decide; conv => whnf)
            | ((with_reducible refine Split.is_false ?_ ?_); decide; conv => whnf)
            | ((with_reducible refine Split.nez (fun _ => ?_) (fun _ => ?_)) <;> conv => whnf)
            | ((with_reducible refine Split.eqz (fun _ => ?_) (fun _ => ?_)) <;> conv => whnf)
            | ((with_reducible refine Split.and ?_))
            | ((with_reducible refine Split.or ?_))
            | ((with_reducible refine Split.streq (fun _ => ?_) (fun _ => ?_)) <;> conv => whnf)
            | ((with_reducible refine Split.dec (fun _ => ?_) (fun _ => ?_)) <;> conv => whnf)
            | ((with_reducible refine Split.mk (fun _ => ?_) (fun _ => ?_)) <;> conv => whnf)
            | ((with_reducible refine NilK.mk (fun _ => ?_) ?_) <;> conv => whnf)
            | ((with_reducible refine AltK.l ?_); (conv => whnf); (with_reducible refine Need.mk ?_ ?_); (first | omega | (refine ⟨?_, ?_⟩ <;> simp <;> omega) | (simp; omega)); conv => whnf)
            | ((with_reducible refine Need.mk ?_ ?_); (first | omega | rfl | decide | (refine ⟨?_, ?_⟩ <;> simp <;> omega) | (simp; omega)); conv => whnf)
            | ((with_reducible refine Wr.quo ?_ ?_ ?_ ?_); omega; omega; omega; conv => whnf)
            | ((with_reducible refine Wr.inr ?_ ?_); (first | omega | (simp; omega)); conv => whnf)
            | ((with_reducible refine Wr.inu ?_ ?_); omega; conv => whnf)
            | (exfalso; first | omega | contradiction))
          exact Again.au (i + 1) (by omega) (by omega) (by refine ⟨?_, ?_, rfl⟩ <;> (repeat' (first | exact True.intro | exact rfl | refine ⟨?_, ?_⟩ | (intro h; cases h; done) | (intro h; exact h) | exact map_snoc | (refine own_congr ?_; simp; done) | (refine int_congr ?_; (first | omega | (simp; omega))) | (simp; done) | ((first | refine own_congr ?_ | refine int_congr ?_ | skip); simp [hst]; done) | ((first | refine own_congr ?_ | refine int_congr ?_); simp [hst]; omega) | (show @Eq (List Go.Vm.D) _ []; simp [hst]; done) | (simp [D.cells, hst]; done))))
        · have ei : l.take i = l := List.take_of_length_le (by omega)
          rw [ei]
          have h5 := ev_rising (l.map Sg.n) (by rw [List.length_map]; omega)
          conv => whnf
          repeat' (first
            | ((with_reducible refine Split.of_true ?_); conv => whnf)
            | ((with_reducible refine Split.of_false ?_); conv => whnf)
            | ((with_reducible refine Split.neg ?_))
            | ((with_reducible refine Split.is_true ?_ ?_); decide; conv => whnf)
            | ((with_reducible refine Split.is_false ?_ ?_); decide; conv => whnf)
            | ((with_reducible refine Split.nez (fun _ => ?_) (fun _ => ?_)) <;> conv => whnf)
            | ((with_reducible refine Split.eqz (fun _ => ?_) (fun _ => ?_)) <;> conv => whnf)
            | ((with_reducible refine Split.and ?_))
            | ((with_reducible refine Split.or ?_))
            | ((with_reducible refine Split.streq (fun _ => ?_) (fun _ => ?_)) <;> conv => whnf)
            | ((with_reducible refine Split.dec (fun _ => ?_) (fun _ => ?_)) <;> conv => whnf)
            | ((with_reducible refine Split.mk (fun _ => ?_) (fun _ => ?_)) <;> conv => whnf)
            | ((with_reducible refine NilK.mk (fun _ => ?_) ?_) <;> conv => whnf)
            | ((with_reducible refine AltK.l ?_); (conv => whnf); (with_reducible refine Need.mk ?_ ?_); (first | omega | (refine ⟨?_, ?_⟩ <;> simp <;> omega) | (simp; omega)); conv => whnf)
            | ((with_reducible refine Need.mk ?_ ?_); (first | omega | rfl | decide | (refine ⟨?_, ?_⟩ <;> simp <;> omega) | (simp; omega)); conv => whnf)
            | ((with_reducible refine Wr.quo ?_ ?_ ?_ ?_); omega; omega; omega; conv => whnf)
            | ((with_reducible refine Wr.inr ?_ ?_); (first | omega | (simp; omega)); conv => whnf)
            | ((with_reducible refine Wr.inu ?_ ?_); omega; conv => whnf)
            | ((with_reducible refine AltK.l ?_); (conv => whnf); (first | (refine CallK.mk _ (h5) ?_)); conv => whnf)
            | (exfalso; first | omega | contradiction))
          have hgn := gdF_nonneg (thinO_snd r (sortL cfThin l) fun s hs => hpos s (hob s hs))
          obtain ⟨q1, q2⟩ := htold
          have hnl : (sortZ (l.map Sg.n)).length = l.length := by rw [sortZ_len, List.length_map]
          have hnm : ∀ m ∈ sortZ (l.map Sg.n), m ∈ l.map Sg.n := fun m hm => (sortZ_perm _).subset hm
          have en2 : ((sortZ (l.map Sg.n)).map iD).length = (sortZ (l.map Sg.n)).length := List.length_map _
          generalize sortZ (l.map Sg.n) = ns at *
          generalize thinO r (sortL cfThin l) = q at *
          obtain ⟨kp, gs⟩ := q
          dsimp only at hgn q1 q2 ⊢
          refine LoopK.o2 (fun i : Nat => i ≤ ns.length) (fun i => [(17, .d (.int .i64 i))])
            (fun i => [(14, .var [.own 202 1 (((ns.take i).filter (fun n => decide (gdF gs n = 0))).map iD).length, .own 203 2 ((((ns.take i).filter (fun n => !decide (gdF gs n = 0))).map fun n => (n, gdF gs n)).map gdD).length] false),
              (202, .row 3 1 (((ns.take i).filter (fun n => decide (gdF gs n = 0))).map iD) false), (203, .row 127 2 ((((ns.take i).filter (fun n => !decide (gdF gs n = 0))).map fun n => (n, gdF gs n)).map gdD) false)]) (fun i => ns.length - i) 0 (by simp) (by refine ⟨?_, ?_, rfl⟩ <;> (repeat' (first | exact True.intro | exact rfl | refine ⟨?_, ?_⟩ | (intro h; cases h; done) | (intro h; exact h) | exact map_snoc | (refine own_congr ?_; simp; done) | (refine int_congr ?_; (first | omega | (simp; omega))) | (simp; done)))) ?_
          rintro i hi
          have hnx2 : (i : Int) < ns.length → ∃ m, ns[i]? = some m := fun h => some_of_lt (by omega)
          conv => whnf
          repeat' (first
            | ((with_reducible refine Split.of_true ?_); conv => whnf)
            | ((with_reducible refine Split.of_false ?_); conv => whnf)
            | ((with_reducible refine Split.neg ?_))
            | ((with_reducible refine Split.is_true ?_ ?_); decide; conv => whnf)
            | ((with_reducible refine Split.is_false ?_ ?_); decide; conv => whnf)
            | ((with_reducible refine Split.nez (fun _ => ?_) (fun _ => ?_)) <;> conv => whnf)
            | ((with_reducible refine Split.eqz (fun _ => ?_) (fun _ => ?_)) <;> conv => whnf)
            | ((with_reducible refine Split.and ?_))
            | ((with_reducible refine Split.or ?_))
            | ((with_reducible refine Split.streq (fun _ => ?_) (fun _ => ?_)) <;> conv => whnf)
            | ((with_reducible refine Split.dec (fun _ => ?_) (fun _ => ?_)) <;> conv => whnf)
            | ((with_reducible refine Split.mk (fun _ => ?_) (fun _ => ?_)) <;> conv => whnf)
            | ((with_reducible refine NilK.mk (fun _ => ?_) ?_) <;> conv => whnf)
            | ((with_reducible refine AltK.l ?_); (conv => whnf); (with_reducible refine Need.mk ?_ ?_); (first | omega | (refine ⟨?_, ?_⟩ <;> simp <;> omega) | (simp; omega)); conv => whnf)
            | ((with_reducible refine Need.mk ?_ ?_); (first | omega | rfl | decide | (refine ⟨?_, ?_⟩ <;> simp <;> omega) | (simp; omega)); conv => whnf)
            | ((with_reducible refine Wr.quo ?_ ?_ ?_ ?_); omega; omega; omega; conv => whnf)
            | ((with_reducible refine Wr.inr ?_ ?_); (first | omega | (simp; omega)); conv => whnf)
            | ((with_reducible refine Wr.inu ?_ ?_); omega; conv => whnf)
            | (exfalso; first | omega | contradiction))
          · obtain ⟨m, hm⟩ := hnx2 (by omega)
            obtain ⟨j, s, hj1, hj2, rfl⟩ := find_num (hnm m (List.mem_of_getElem? hm))
            have h6 := ev_Find l s.n (by omega)
            rw [hj1] at h6
            have hg := hgn s.n
            have hf1 : ((ns.take i).filter fun n => decide (gdF gs n = 0)).length ≤ 500 := by
              have := List.length_filter_le (fun n => decide (gdF gs n = 0)) (ns.take i)
              rw [List.length_take] at this; omega
            have hf2 : ((ns.take i).filter fun n => !decide (gdF gs n = 0)).length ≤ 500 := by
              have := List.length_filter_le (fun n => !decide (gdF gs n = 0)) (ns.take i)
              rw [List.length_take] at this; omega
            have hj3 : j < l.length := (List.getElem?_eq_some_iff.1 hj2).1
            conv => whnf
            repeat' (first
              | ((refine PickE.map j hj2 (by omega) ?_); conv => whnf)
              | ((refine PickE.map i hm (by omega) ?_); conv => whnf)
              | ((with_reducible refine Split.of_true ?_); conv => whnf)
              | ((with_reducible refine Split.of_false ?_); conv => whnf)
              | ((with_reducible refine Split.neg ?_))
              | ((with_reducible refine Split.is_true ?_ ?_); decide; conv => whnf)
              | ((with_reducible refine Split.is_false ?_ ?_); decide; conv => whnf)
              | ((with_reducible refine Split.nez (fun _ => ?_) (fun _ => ?_)) <;> conv => whnf)
              | ((with_reducible refine Split.eqz (fun _ => ?_) (fun _ => ?_)) <;> conv => whnf)
              | ((with_reducible refine Split.and ?_))
              | ((with_reducible refine Split.or ?_))
              | ((with_reducible refine Split.streq (fun _ => ?_) (fun _ => ?_)) <;> conv => whnf)
              | ((with_reducible refine Split.dec (fun _ => ?_) (fun _ => ?_)) <;> conv => whnf)
              | ((with_reducible refine Split.mk (fun _ => ?_) (fun _ => ?_)) <;> conv => whnf)
              | ((with_reducible refine NilK.mk (fun _ => ?_) ?_) <;> conv => whnf)
              | ((with_reducible refine AltK.l ?_); (conv => whnf); (with_reducible refine Need.mk ?_ ?_); (first | omega | (refine ⟨?_, ?_⟩ <;> simp <;> omega) | (simp; omega)); conv => whnf)
              | ((with_reducible refine Need.mk ?_ ?_); (first | omega | rfl | decide | (refine ⟨?_, ?_⟩ <;> simp <;> omega) | (simp; omega)); conv => whnf)
              | ((with_reducible refine Wr.quo ?_ ?_ ?_ ?_); omega; omega; omega; conv => whnf)
              | ((with_reducible refine Wr.inr ?_ ?_); (first | omega | (simp; omega)); conv => whnf)
              | ((with_reducible refine Wr.inu ?_ ?_); omega; conv => whnf)
              | ((with_reducible refine AltK.l ?_); (conv => whnf); (first | (refine CallK.mk _ (h6) ?_)); conv => whnf)
              | (exfalso; first | omega | contradiction))
            · have hst1 := filter_no (p := fun n => decide (gdF gs n = 0)) hm (by simp; omega)
              have hst2 := filter_yes (p := fun n => !decide (gdF gs n = 0)) hm (by simp; omega)
              have hmp7 : (((ns.take i).filter fun n => !decide (gdF gs n = 0)).map fun n => (n, gdF gs n)).map gdD ++ D.agg [iD s.n, .int .i64 (gdF gs s.n)] :: List.replicate 0 (D.agg [.int .i64 0, .int .i64 0]) = (((ns.take (i + 1)).filter fun n => !decide (gdF gs n = 0)).map fun n => (n, gdF gs n)).map gdD := by
                rw [hst2]; simp [gdD, iD]
              exact Again.au (i + 1) (by omega) (by omega) (by refine ⟨?_, ?_, rfl⟩ <;> (repeat' (first | exact True.intro | exact rfl | refine ⟨?_, ?_⟩ | (intro h; cases h; done) | (intro h; exact h) | exact map_snoc | (refine own_congr ?_; simp; done) | (refine int_congr ?_; (first | omega | (simp; omega))) | (simp; done) | exact hmp7 | ((first | refine own_congr ?_ | refine int_congr ?_ | skip); simp [hst1,hst2]; done) | ((first | refine own_congr ?_ | refine int_congr ?_); simp [hst1,hst2]; omega) | (show @Eq (List Go.Vm.D) _ []; simp [hst1,hst2]; done) | (simp [D.cells, hst1,hst2]; done))))
            · have hst1 := filter_yes (p := fun n => decide (gdF gs n = 0)) hm (by simp; omega)
              have hst2 := filter_no (p := fun n => !decide (gdF gs n = 0)) hm (by simp; omega)
              exact Again.au (i + 1) (by omega) (by omega) (by refine ⟨?_, ?_, rfl⟩ <;> (repeat' (first | exact True.intro | exact rfl | refine ⟨?_, ?_⟩ | (intro h; cases h; done) | (intro h; exact h) | exact map_snoc | (refine own_congr ?_; simp; done) | (refine int_congr ?_; (first | omega | (simp; omega))) | (simp; done) | ((first | refine own_congr ?_ | refine int_congr ?_ | skip); simp [hst1,hst2]; done) | ((first | refine own_congr ?_ | refine int_congr ?_); simp [hst1,hst2]; omega) | (show @Eq (List Go.Vm.D) _ []; simp [hst1,hst2]; done) | (simp [D.cells, hst1,hst2]; done))))
          · rw [q1, q2, List.take_of_length_le (show ns.length ≤ i by omega)]
            rfl
    · obtain ⟨r1, r2⟩ := rad_out r0
      rw [if_pos (by simpa using r0), r2]
      rw [r1] at h2
      refine ev_of_awp tysOk mixed (fn := Tryz.f31) Tryz.func31 rfl rfl rfl ?_
      conv => whnf
      repeat' (first
        | ((with_reducible refine Split.of_true ?_); conv => whnf)
        | ((with_reducible refine Split.of_false ?_); conv => whnf)
        | ((with_reducible refine Split.neg ?_))
        | ((with_reducible refine Split.is_true ?_ ?_); decide; conv => whnf)
        | ((with_reducible refine Split.is_false ?_ ?_); decide; conv => whnf)
        | ((with_reducible refine Split.nez (fun _ => ?_) (fun _ => ?_)) <;> conv => whnf)
        | ((with_reducible refine Split.eqz (fun _ => ?_) (fun _ => ?_)) <;> conv => whnf)
        | ((with_reducible refine Split.and ?_))
        | ((with_reducible refine Split.or ?_))
        | ((with_reducible refine Split.streq (fun _ => ?_) (fun _ => ?_)) <;> conv => whnf)
        | ((with_reducible refine Split.dec (fun _ => ?_) (fun _ => ?_)) <;> conv => whnf)
        | ((with_reducible refine Split.mk (fun _ => ?_) (fun _ => ?_)) <;> conv => whnf)
        | ((with_reducible refine NilK.mk (fun _ => ?_) ?_) <;> conv => whnf)
        | ((with_reducible refine AltK.l ?_); (conv => whnf); (with_reducible refine Need.mk ?_ ?_); (first | omega | (refine ⟨?_, ?_⟩ <;> simp <;> omega) | (simp; omega)); conv => whnf)
        | ((with_reducible refine Need.mk ?_ ?_); (first | omega | rfl | decide | (refine ⟨?_, ?_⟩ <;> simp <;> omega) | (simp; omega)); conv => whnf)
        | ((with_reducible refine Wr.quo ?_ ?_ ?_ ?_); omega; omega; omega; conv => whnf)
        | ((with_reducible refine Wr.inr ?_ ?_); (first | omega | (simp; omega)); conv => whnf)
        | ((with_reducible refine Wr.inu ?_ ?_); omega; conv => whnf)
        | ((with_reducible refine AltK.l ?_); (conv => whnf); (first | (refine CallK.mk _ (h1) ?_) | (refine CallK.mk _ (h2) ?_)); conv => whnf)
        | (exfalso; first | omega | contradiction))
      rfl
  · rw [thinRes, if_pos (by simpa using c0)]
    refine ev_of_awp tysOk mixed (fn := Tryz.f31) Tryz.func31 rfl rfl rfl ?_
    conv => whnf
    repeat' (first
      | ((with_reducible refine Split.of_true ?_); conv => whnf)
      | ((with_reducible refine Split.of_false ?_); conv => whnf)
      | ((with_reducible refine Split.neg ?_))
      | ((with_reducible refine Split.is_true ?_ ?_); decide; conv => whnf)
      | ((with_reducible refine Split.is_false ?_ ?_); decide; conv => whnf)
      | ((with_reducible refine Split.nez (fun _ => ?_) (fun _ => ?_)) <;> conv => whnf)
      | ((with_reducible refine Split.eqz (fun _ => ?_) (fun _ => ?_)) <;> conv => whnf)
      | ((with_reducible refine Split.and ?_))
      | ((with_reducible refine Split.or ?_))
      | ((with_reducible refine Split.streq (fun _ => ?_) (fun _ => ?_)) <;> conv => whnf)
      | ((with_reducible refine Split.dec (fun _ => ?_) (fun _ => ?_)) <;> conv => whnf)
      | ((with_reducible refine Split.mk (fun _ => ?_) (fun _ => ?_)) <;> conv => whnf)
      | ((with_reducible refine NilK.mk (fun _ => ?_) ?_) <;> conv => whnf)
      | ((with_reducible refine AltK.l ?_); (conv => whnf); (with_reducible refine Need.mk ?_ ?_); (first | omega | (refine ⟨?_, ?_⟩ <;> simp <;> omega) | (simp; omega)); conv => whnf)
      | ((with_reducible refine Need.mk ?_ ?_); (first | omega | rfl | decide | (refine ⟨?_, ?_⟩ <;> simp <;> omega) | (simp; omega)); conv => whnf)
      | ((with_reducible refine Wr.quo ?_ ?_ ?_ ?_); omega; omega; omega; conv => whnf)
      | ((with_reducible refine Wr.inr ?_ ?_); (first | omega | (simp; omega)); conv => whnf)
      | ((with_reducible refine Wr.inu ?_ ?_); omega; conv => whnf)
      | ((with_reducible refine AltK.l ?_); (conv => whnf); (first | (refine CallK.mk _ (h1) ?_)); conv => whnf)
      | (exfalso; first | omega | contradiction))
    rfl
end Go.Proofs.Tryz
end

section
namespace Go.Proofs.Tryz
open Go Go.Vm
set_option maxRecDepth 20000
set_option maxHeartbeats 2000000
/-! IndexFunc and DeleteFunc by a function that has captured a map. -/
theorem xv_IndexSm (l : List Sg) (f kt et : Nat) (kd : TypeDesc) (es : List (D × D)) (p : Sg → Bool) (hn : l.length ≤ 1000000) (hf : ∀ g ∈ l, EvX Tryz.prog f [.d (sgD g), .ptr 1001 0] [(1002, .map kt et kd es), (1001, .var [.mp 1002] false)] (.d (.bool (p g))) [(1002, .map kt et kd es), (1001, .var [.mp 1002] false)]) :
    EvX Tryz.prog 81 [.own 1000 5 (l.map sgD).length, .fnv f [.box 1001]] [(1002, .map kt et kd es), (1001, .var [.mp 1002] false), (1000, .row 36 5 (l.map sgD) false)] (.d (.int .i64 (match l.findIdx? p with | some i => (i : Int) | none => -1))) [(1002, .map kt et kd es), (1001, .var [.mp 1002] false), (1000, .row 36 5 (l.map sgD) false)] := by
  have hlen : (l.map sgD).length = l.length := List.length_map _
  refine evx_of_awp tysOk mixed (fn := Tryz.f81) Tryz.func81 rfl rfl rfl ?_
  conv => whnf
  repeat' (first
    | ((with_reducible refine Split.of_true ?_); conv => whnf)
    | ((with_reducible refine Split.of_false ?_); conv => whnf)
    | ((with_reducible refine Split.neg ?_))
    | ((with_reducible refine Split.is_true ?_ ?_); decide; conv => whnf)
    | ((with_reducible refine Split.is_false ?_ ?_); decide; conv => whnf)
    | ((with_reducible refine Split.nez (fun _ => ?_) (fun _ => ?_)) <;> conv => whnf)
    | ((with_reducible refine Split.eqz (fun _ => ?_) (fun _ => ?_)) <;> conv => whnf)
    | ((with_reducible refine Split.and ?_))
    | ((with_reducible refine Split.or ?_))
    | ((with_reducible refine Split.streq (fun _ => ?_) (fun _ => ?_)) <;> conv => whnf)
    | ((with_reducible refine Split.dec (fun _ => ?_) (fun _ => ?_)) <;> conv => whnf)
    | ((with_reducible refine Split.mk (fun _ => ?_) (fun _ => ?_)) <;> conv => whnf)
    | ((with_reducible refine NilK.mk (fun _ => ?_) ?_) <;> conv => whnf)
    | ((with_reducible refine AltK.l ?_); (conv => whnf); (with_reducible refine Need.mk ?_ ?_); (first | omega | (refine ⟨?_, ?_⟩ <;> simp <;> omega) | (simp; omega)); conv => whnf)
    | ((with_reducible refine Need.mk ?_ ?_); (first | omega | rfl | decide | (refine ⟨?_, ?_⟩ <;> simp <;> omega) | (simp; omega)); conv => whnf)
    | ((with_reducible refine Wr.quo ?_ ?_ ?_ ?_); omega; omega; omega; conv => whnf)
    | ((with_reducible refine Wr.inr ?_ ?_); (first | omega | (simp; omega)); conv => whnf)
    | ((with_reducible refine Wr.inu ?_ ?_); omega; conv => whnf)
    | (exfalso; first | omega | contradiction))
  refine LoopK.o2 (fun i : Nat => i ≤ l.length ∧ ∀ g ∈ l.take i, p g = false) (fun i => [(8, .d (.int .i64 i))]) (fun _ => []) (fun i => l.length - i) 0 (by simp) (by refine ⟨?_, ?_, rfl⟩ <;> (repeat' (first | exact True.intro | exact rfl | refine ⟨?_, ?_⟩ | (intro h; cases h; done) | (intro h; exact h) | exact map_snoc | (refine own_congr ?_; simp; done) | (refine int_congr ?_; (first | omega | (simp; omega))) | (simp; done)))) ?_
  rintro i ⟨hi, hp⟩
  have hn : (i : Int) < l.length → ∃ m, l[i]? = some m := fun h => some_of_lt (by omega)
  conv => whnf
  repeat' (first
    | ((with_reducible refine Split.of_true ?_); conv => whnf)
    | ((with_reducible refine Split.of_false ?_); conv => whnf)
    | ((with_reducible refine Split.neg ?_))
    | ((with_reducible refine Split.is_true ?_ ?_); decide; conv => whnf)
    | ((with_reducible refine Split.is_false ?_ ?_); decide; conv => whnf)
    | ((with_reducible refine Split.nez (fun _ => ?_) (fun _ => ?_)) <;> conv => whnf)
    | ((with_reducible refine Split.eqz (fun _ => ?_) (fun _ => ?_)) <;> conv => whnf)
    | ((with_reducible refine Split.and ?_))
    | ((with_reducible refine Split.or ?_))
    | ((with_reducible refine Split.streq (fun _ => ?_) (fun _ => ?_)) <;> conv => whnf)
    | ((with_reducible refine Split.dec (fun _ => ?_) (fun _ => ?_)) <;> conv => whnf)
    | ((with_reducible refine Split.mk (fun _ => ?_) (fun _ => ?_)) <;> conv => whnf)
    | ((with_reducible refine NilK.mk (fun _ => ?_) ?_) <;> conv => whnf)
    | ((with_reducible refine AltK.l ?_); (conv => whnf); (with_reducible refine Need.mk ?_ ?_); (first | omega | (refine ⟨?_, ?_⟩ <;> simp <;> omega) | (simp; omega)); conv => whnf)
    | ((with_reducible refine Need.mk ?_ ?_); (first | omega | rfl | decide | (refine ⟨?_, ?_⟩ <;> simp <;> omega) | (simp; omega)); conv => whnf)
    | ((with_reducible refine Wr.quo ?_ ?_ ?_ ?_); omega; omega; omega; conv => whnf)
    | ((with_reducible refine Wr.inr ?_ ?_); (first | omega | (simp; omega)); conv => whnf)
    | ((with_reducible refine Wr.inu ?_ ?_); omega; conv => whnf)
    | (exfalso; first | omega | contradiction))
  · obtain ⟨g, hg⟩ := hn (by omega)
    have hf := hf g (List.mem_of_getElem? hg)
    conv => whnf
    repeat' (first
      | ((refine PickE.map i hg (by omega) ?_); conv => whnf)
      | ((with_reducible refine Split.of_true ?_); conv => whnf)
      | ((with_reducible refine Split.of_false ?_); conv => whnf)
      | ((with_reducible refine Split.neg ?_))
      | ((with_reducible refine Split.is_true ?_ ?_); decide; conv => whnf)
      | ((with_reducible refine Split.is_false ?_ ?_); decide; conv => whnf)
      | ((with_reducible refine Split.nez (fun _ => ?_) (fun _ => ?_)) <;> conv => whnf)
      | ((with_reducible refine Split.eqz (fun _ => ?_) (fun _ => ?_)) <;> conv => whnf)
      | ((with_reducible refine Split.and ?_))
      | ((with_reducible refine Split.or ?_))
      | ((with_reducible refine Split.streq (fun _ => ?_) (fun _ => ?_)) <;> conv => whnf)
      | ((with_reducible refine Split.dec (fun _ => ?_) (fun _ => ?_)) <;> conv => whnf)
      | ((with_reducible refine Split.mk (fun _ => ?_) (fun _ => ?_)) <;> conv => whnf)
      | ((with_reducible refine NilK.mk (fun _ => ?_) ?_) <;> conv => whnf)
      | ((with_reducible refine AltK.l ?_); (conv => whnf); (with_reducible refine Need.mk ?_ ?_); (first | omega | (refine ⟨?_, ?_⟩ <;> simp <;> omega) | (simp; omega)); conv => whnf)
      | ((with_reducible refine Need.mk ?_ ?_); (first | omega | rfl | decide | (refine ⟨?_, ?_⟩ <;> simp <;> omega) | (simp; omega)); conv => whnf)
      | ((with_reducible refine Wr.quo ?_ ?_ ?_ ?_); omega; omega; omega; conv => whnf)
      | ((with_reducible refine Wr.inr ?_ ?_); (first | omega | (simp; omega)); conv => whnf)
      | ((with_reducible refine Wr.inu ?_ ?_); omega; conv => whnf)
      | (exfalso; first | omega | contradiction))
    refine AltK.r ?_
    conv => whnf
    refine CallX.mk _ _ hf rfl ?_
    conv => whnf
    refine Split.mk (fun hpg => ?_) (fun hpg => ?_)
    · conv => whnf
      repeat' (first
        | ((with_reducible refine Split.of_true ?_); conv => whnf)
        | ((with_reducible refine Split.of_false ?_); conv => whnf)
        | ((with_reducible refine Split.neg ?_))
        | ((with_reducible refine Split.is_true ?_ ?_); decide; conv => whnf)
        | ((with_reducible refine Split.is_false ?_ ?_); decide; conv => whnf)
        | ((with_reducible refine Split.nez (fun _ => ?_) (fun _ => ?_)) <;> conv => whnf)
        | ((with_reducible refine Split.eqz (fun _ => ?_) (fun _ => ?_)) <;> conv => whnf)
        | ((with_reducible refine Split.and ?_))
        | ((with_reducible refine Split.or ?_))
        | ((with_reducible refine Split.streq (fun _ => ?_) (fun _ => ?_)) <;> conv => whnf)
        | ((with_reducible refine Split.dec (fun _ => ?_) (fun _ => ?_)) <;> conv => whnf)
        | ((with_reducible refine Split.mk (fun _ => ?_) (fun _ => ?_)) <;> conv => whnf)
        | ((with_reducible refine NilK.mk (fun _ => ?_) ?_) <;> conv => whnf)
        | ((with_reducible refine AltK.l ?_); (conv => whnf); (with_reducible refine Need.mk ?_ ?_); (first | omega | (refine ⟨?_, ?_⟩ <;> simp <;> omega) | (simp; omega)); conv => whnf)
        | ((with_reducible refine Need.mk ?_ ?_); (first | omega | rfl | decide | (refine ⟨?_, ?_⟩ <;> simp <;> omega) | (simp; omega)); conv => whnf)
        | ((with_reducible refine Wr.quo ?_ ?_ ?_ ?_); omega; omega; omega; conv => whnf)
        | ((with_reducible refine Wr.inr ?_ ?_); (first | omega | (simp; omega)); conv => whnf)
        | ((with_reducible refine Wr.inu ?_ ?_); omega; conv => whnf)
        | (exfalso; first | omega | contradiction))
      have e : l.findIdx? p = some i := by
        rw [List.findIdx?_eq_some_iff_getElem]
        refine ⟨by omega, by rw [(List.getElem?_eq_some_iff.1 hg).2]; exact hpg, fun j hj => ?_⟩
        have := hp l[j] (List.mem_take_iff_getElem.2 ⟨j, by omega, rfl⟩)
        rw [this]; decide
      rw [e]
      exact ⟨⟨[], (by refine ⟨?_, ?_, rfl⟩ <;> (repeat' (first | exact True.intro | exact rfl | refine ⟨?_, ?_⟩ | (intro h; cases h; done) | (intro h; exact h) | exact map_snoc | (refine own_congr ?_; simp; done) | (refine int_congr ?_; (first | omega | (simp; omega))) | (simp; done))))⟩, rfl⟩
    · conv => whnf
      conv => whnf
      repeat' (first
        | ((with_reducible refine Split.of_true ?_); conv => whnf)
        | ((with_reducible refine Split.of_false ?_); conv => whnf)
        | ((with_reducible refine Split.neg ?_))
        | ((with_reducible refine Split.is_true ?_ ?_); decide; conv => whnf)
        | ((with_reducible refine Split.is_false ?_ ?_); decide; conv => whnf)
        | ((with_reducible refine Split.nez (fun _ => ?_) (fun _ => ?_)) <;> conv => whnf)
        | ((with_reducible refine Split.eqz (fun _ => ?_) (fun _ => ?_)) <;> conv => whnf)
        | ((with_reducible refine Split.and ?_))
        | ((with_reducible refine Split.or ?_))
        | ((with_reducible refine Split.streq (fun _ => ?_) (fun _ => ?_)) <;> conv => whnf)
        | ((with_reducible refine Split.dec (fun _ => ?_) (fun _ => ?_)) <;> conv => whnf)
        | ((with_reducible refine Split.mk (fun _ => ?_) (fun _ => ?_)) <;> conv => whnf)
        | ((with_reducible refine NilK.mk (fun _ => ?_) ?_) <;> conv => whnf)
        | ((with_reducible refine AltK.l ?_); (conv => whnf); (with_reducible refine Need.mk ?_ ?_); (first | omega | (refine ⟨?_, ?_⟩ <;> simp <;> omega) | (simp; omega)); conv => whnf)
        | ((with_reducible refine Need.mk ?_ ?_); (first | omega | rfl | decide | (refine ⟨?_, ?_⟩ <;> simp <;> omega) | (simp; omega)); conv => whnf)
        | ((with_reducible refine Wr.quo ?_ ?_ ?_ ?_); omega; omega; omega; conv => whnf)
        | ((with_reducible refine Wr.inr ?_ ?_); (first | omega | (simp; omega)); conv => whnf)
        | ((with_reducible refine Wr.inu ?_ ?_); omega; conv => whnf)
        | (exfalso; first | omega | contradiction))
      refine Again.au (i + 1) ⟨by omega, fun x hx => ?_⟩ (by omega) (by refine ⟨?_, ?_, rfl⟩ <;> (repeat' (first | exact True.intro | exact rfl | refine ⟨?_, ?_⟩ | (intro h; cases h; done) | (intro h; exact h) | exact map_snoc | (refine own_congr ?_; simp; done) | (refine int_congr ?_; (first | omega | (simp; omega))) | (simp; done))))
      rw [take_snoc hg] at hx
      rcases List.mem_append.1 hx with hx | hx
      · exact hp x hx
      · rw [List.mem_singleton.1 hx]; exact hpg
  · have e : l.findIdx? p = none := by
      rw [List.findIdx?_eq_none_iff]
      intro x hx
      rw [← List.take_of_length_le (show l.length ≤ i by omega)] at hx
      exact hp x hx
    rw [e]
    exact ⟨⟨[], (by refine ⟨?_, ?_, rfl⟩ <;> (repeat' (first | exact True.intro | exact rfl | refine ⟨?_, ?_⟩ | (intro h; cases h; done) | (intro h; exact h) | exact map_snoc | (refine own_congr ?_; simp; done) | (refine int_congr ?_; (first | omega | (simp; omega))) | (simp; done))))⟩, rfl⟩
theorem xv_delSmN (f kt et : Nat) (kd : TypeDesc) (es : List (D × D)) :
    EvX Tryz.prog 92 [.d (.sl 5 []), .fnv f [.box 1001]] [(1002, .map kt et kd es), (1001, .var [.mp 1002] false)] (.d (.sl 5 [])) [(1002, .map kt et kd es), (1001, .var [.mp 1002] false)] := by
  have h : EvX Tryz.prog 81 [.d (.sl 5 []), .fnv f [.box 1001]] [(1002, .map kt et kd es), (1001, .var [.mp 1002] false)] (.d (iD (-1))) [(1002, .map kt et kd es), (1001, .var [.mp 1002] false)] := by
    refine evx_of_awp tysOk mixed (fn := Tryz.f81) Tryz.func81 rfl rfl rfl ?_
    conv => whnf
    repeat' (first
      | ((refine LoopK.unr 1 ?_); conv => whnf)
      | ((with_reducible refine Split.of_true ?_); conv => whnf)
      | ((with_reducible refine Split.of_false ?_); conv => whnf)
      | ((with_reducible refine Split.neg ?_))
      | ((with_reducible refine Split.is_true ?_ ?_); decide; conv => whnf)
      | ((with_reducible refine Split.is_false ?_ ?_); decide; conv => whnf)
      | ((with_reducible refine Split.nez (fun _ => ?_) (fun _ => ?_)) <;> conv => whnf)
      | ((with_reducible refine Split.eqz (fun _ => ?_) (fun _ => ?_)) <;> conv => whnf)
      | ((with_reducible refine Split.and ?_))
      | ((with_reducible refine Split.or ?_))
      | ((with_reducible refine Split.streq (fun _ => ?_) (fun _ => ?_)) <;> conv => whnf)
      | ((with_reducible refine Split.dec (fun _ => ?_) (fun _ => ?_)) <;> conv => whnf)
      | ((with_reducible refine Split.mk (fun _ => ?_) (fun _ => ?_)) <;> conv => whnf)
      | ((with_reducible refine NilK.mk (fun _ => ?_) ?_) <;> conv => whnf)
      | ((with_reducible refine AltK.l ?_); (conv => whnf); (with_reducible refine Need.mk ?_ ?_); (first | omega | (refine ⟨?_, ?_⟩ <;> simp <;> omega) | (simp; omega)); conv => whnf)
      | ((with_reducible refine Need.mk ?_ ?_); (first | omega | rfl | decide | (refine ⟨?_, ?_⟩ <;> simp <;> omega) | (simp; omega)); conv => whnf)
      | ((with_reducible refine Wr.quo ?_ ?_ ?_ ?_); omega; omega; omega; conv => whnf)
      | ((with_reducible refine Wr.inr ?_ ?_); (first | omega | (simp; omega)); conv => whnf)
      | ((with_reducible refine Wr.inu ?_ ?_); omega; conv => whnf)
      | (exfalso; first | omega | contradiction))
    exact ⟨⟨[], (by refine ⟨?_, ?_, rfl⟩ <;> (repeat' (first | exact True.intro | exact rfl | refine ⟨?_, ?_⟩ | (intro h; cases h; done) | (intro h; exact h) | exact map_snoc | (refine own_congr ?_; simp; done) | (refine int_congr ?_; (first | omega | (simp; omega))) | (simp; done))))⟩, rfl⟩
  refine evx_of_awp tysOk mixed (fn := Tryz.f92) Tryz.func92 rfl rfl rfl ?_
  conv => whnf
  repeat' (first
    | ((with_reducible refine Split.of_true ?_); conv => whnf)
    | ((with_reducible refine Split.of_false ?_); conv => whnf)
    | ((with_reducible refine Split.neg ?_))
    | ((with_reducible refine Split.is_true ?_ ?_); decide; conv => whnf)
    | ((with_reducible refine Split.is_false ?_ ?_); decide; conv => whnf)
    | ((with_reducible refine Split.nez (fun _ => ?_) (fun _ => ?_)) <;> conv => whnf)
    | ((with_reducible refine Split.eqz (fun _ => ?_) (fun _ => ?_)) <;> conv => whnf)
    | ((with_reducible refine Split.and ?_))
    | ((with_reducible refine Split.or ?_))
    | ((with_reducible refine Split.streq (fun _ => ?_) (fun _ => ?_)) <;> conv => whnf)
    | ((with_reducible refine Split.dec (fun _ => ?_) (fun _ => ?_)) <;> conv => whnf)
    | ((with_reducible refine Split.mk (fun _ => ?_) (fun _ => ?_)) <;> conv => whnf)
    | ((with_reducible refine NilK.mk (fun _ => ?_) ?_) <;> conv => whnf)
    | ((with_reducible refine AltK.l ?_); (conv => whnf); (with_reducible refine Need.mk ?_ ?_); (first | omega | (refine ⟨?_, ?_⟩ <;> simp <;> omega) | (simp; omega)); conv => whnf)
    | ((with_reducible refine Need.mk ?_ ?_); (first | omega | rfl | decide | (refine ⟨?_, ?_⟩ <;> simp <;> omega) | (simp; omega)); conv => whnf)
    | ((with_reducible refine Wr.quo ?_ ?_ ?_ ?_); omega; omega; omega; conv => whnf)
    | ((with_reducible refine Wr.inr ?_ ?_); (first | omega | (simp; omega)); conv => whnf)
    | ((with_reducible refine Wr.inu ?_ ?_); omega; conv => whnf)
    | ((with_reducible refine AltK.r ?_); (conv => whnf); (first | (refine CallX.mk _ _ (h) rfl ?_)); conv => whnf)
    | (exfalso; first | omega | contradiction))
  exact ⟨⟨[], (by refine ⟨?_, ?_, rfl⟩ <;> (repeat' (first | exact True.intro | exact rfl | refine ⟨?_, ?_⟩ | (intro h; cases h; done) | (intro h; exact h) | exact map_snoc | (refine own_congr ?_; simp; done) | (refine int_congr ?_; (first | omega | (simp; omega))) | (simp; done))))⟩, rfl⟩
theorem xv_delSm0 (l : List Sg) (f kt et : Nat) (kd : TypeDesc) (es : List (D × D)) (p : Sg → Bool) (hn : l.length ≤ 1000000) (hf : ∀ g ∈ l, EvX Tryz.prog f [.d (sgD g), .ptr 1001 0] [(1002, .map kt et kd es), (1001, .var [.mp 1002] false)] (.d (.bool (p g))) [(1002, .map kt et kd es), (1001, .var [.mp 1002] false)]) (h0 : l.findIdx? p = none) :
    EvX Tryz.prog 92 [.own 1000 5 (l.map sgD).length, .fnv f [.box 1001]] [(1002, .map kt et kd es), (1001, .var [.mp 1002] false), (1000, .row 36 5 (l.map sgD) false)] (.own 1000 5 (l.map sgD).length) [(1002, .map kt et kd es), (1001, .var [.mp 1002] false), (1000, .row 36 5 (l.map sgD) false)] := by
  have hlen : (l.map sgD).length = l.length := List.length_map _
  have h := xv_IndexSm l f kt et kd es p hn hf
  rw [h0] at h
  refine evx_of_awp tysOk mixed (fn := Tryz.f92) Tryz.func92 rfl rfl rfl ?_
  conv => whnf
  repeat' (first
    | ((with_reducible refine Split.of_true ?_); conv => whnf)
    | ((with_reducible refine Split.of_false ?_); conv => whnf)
    | ((with_reducible refine Split.neg ?_))
    | ((with_reducible refine Split.is_true ?_ ?_); decide; conv => whnf)
    | ((with_reducible refine Split.is_false ?_ ?_); decide; conv => whnf)
    | ((with_reducible refine Split.nez (fun _ => ?_) (fun _ => ?_)) <;> conv => whnf)
    | ((with_reducible refine Split.eqz (fun _ => ?_) (fun _ => ?_)) <;> conv => whnf)
    | ((with_reducible refine Split.and ?_))
    | ((with_reducible refine Split.or ?_))
    | ((with_reducible refine Split.streq (fun _ => ?_) (fun _ => ?_)) <;> conv => whnf)
    | ((with_reducible refine Split.dec (fun _ => ?_) (fun _ => ?_)) <;> conv => whnf)
    | ((with_reducible refine Split.mk (fun _ => ?_) (fun _ => ?_)) <;> conv => whnf)
    | ((with_reducible refine NilK.mk (fun _ => ?_) ?_) <;> conv => whnf)
    | ((with_reducible refine AltK.l ?_); (conv => whnf); (with_reducible refine Need.mk ?_ ?_); (first | omega | (refine ⟨?_, ?_⟩ <;> simp <;> omega) | (simp; omega)); conv => whnf)
    | ((with_reducible refine Need.mk ?_ ?_); (first | omega | rfl | decide | (refine ⟨?_, ?_⟩ <;> simp <;> omega) | (simp; omega)); conv => whnf)
    | ((with_reducible refine Wr.quo ?_ ?_ ?_ ?_); omega; omega; omega; conv => whnf)
    | ((with_reducible refine Wr.inr ?_ ?_); (first | omega | (simp; omega)); conv => whnf)
    | ((with_reducible refine Wr.inu ?_ ?_); omega; conv => whnf)
    | ((with_reducible refine AltK.r ?_); (conv => whnf); (first | (refine CallX.mk _ _ (h) rfl ?_)); conv => whnf)
    | (exfalso; first | omega | contradiction))
  exact ⟨⟨[], (by refine ⟨?_, ?_, rfl⟩ <;> (repeat' (first | exact True.intro | exact rfl | refine ⟨?_, ?_⟩ | (intro h; cases h; done) | (intro h; exact h) | exact map_snoc | (refine own_congr ?_; simp; done) | (refine int_congr ?_; (first | omega | (simp; omega))) | (simp; done))))⟩, rfl⟩
theorem xv_delSm (l : List Sg) (f kt et : Nat) (kd : TypeDesc) (es : List (D × D)) (p : Sg → Bool) (hn : l.length ≤ 1000000) (hf : ∀ g ∈ l, EvX Tryz.prog f [.d (sgD g), .ptr 1001 0] [(1002, .map kt et kd es), (1001, .var [.mp 1002] false)] (.d (.bool (p g))) [(1002, .map kt et kd es), (1001, .var [.mp 1002] false)]) {i0 : Nat} (h0 : l.findIdx? p = some i0) :
    EvX Tryz.prog 92 [.own 1000 5 (l.map sgD).length, .fnv f [.box 1001]] [(1002, .map kt et kd es), (1001, .var [.mp 1002] false), (1000, .row 36 5 (l.map sgD) false)] (.own 9 5 ((l.filter fun x => !p x).map sgD).length) [(1000, .gone), (1002, .map kt et kd es), (1001, .var [.mp 1002] false), (9, .row 36 5 ((l.filter fun x => !p x).map sgD) false)] := by
  have hlen : (l.map sgD).length = l.length := List.length_map _
  have h := xv_IndexSm l f kt et kd es p hn hf
  obtain ⟨k0, hi0⟩ := kp_first h0
  rw [h0] at h
  simp only at h
  have hk0 : (kpL p l (i0 + 1)).length = i0 := by rw [k0, List.length_take]; omega
  refine evx_of_awp tysOk mixed (fn := Tryz.f92) Tryz.func92 rfl rfl rfl ?_
  conv => whnf
  repeat' (first
    | ((with_reducible refine Split.of_true ?_); conv => whnf)
    | ((with_reducible refine Split.of_false ?_); conv => whnf)
    | ((with_reducible refine Split.neg ?_))
    | ((with_reducible refine Split.is_true ?_ ?_); decide; conv => whnf)
    | ((with_reducible refine Split.is_false ?_ ?_); decide; conv => whnf)
    | ((with_reducible refine Split.nez (fun _ => ?_) (fun _ => ?_)) <;> conv => whnf)
    | ((with_reducible refine Split.eqz (fun _ => ?_) (fun _ => ?_)) <;> conv => whnf)
    | ((with_reducible refine Split.and ?_))
    | ((with_reducible refine Split.or ?_))
    | ((with_reducible refine Split.streq (fun _ => ?_) (fun _ => ?_)) <;> conv => whnf)
    | ((with_reducible refine Split.dec (fun _ => ?_) (fun _ => ?_)) <;> conv => whnf)
    | ((with_reducible refine Split.mk (fun _ => ?_) (fun _ => ?_)) <;> conv => whnf)
    | ((with_reducible refine NilK.mk (fun _ => ?_) ?_) <;> conv => whnf)
    | ((with_reducible refine AltK.l ?_); (conv => whnf); (with_reducible refine Need.mk ?_ ?_); (first | omega | (refine ⟨?_, ?_⟩ <;> simp <;> omega) | (simp; omega)); conv => whnf)
    | ((with_reducible refine Need.mk ?_ ?_); (first | omega | rfl | decide | (refine ⟨?_, ?_⟩ <;> simp <;> omega) | (simp; omega)); conv => whnf)
    | ((with_reducible refine Wr.quo ?_ ?_ ?_ ?_); omega; omega; omega; conv => whnf)
    | ((with_reducible refine Wr.inr ?_ ?_); (first | omega | (simp; omega)); conv => whnf)
    | ((with_reducible refine Wr.inu ?_ ?_); omega; conv => whnf)
    | ((with_reducible refine AltK.r ?_); (conv => whnf); (first | (refine CallX.mk _ _ (h) rfl ?_)); conv => whnf)
    | (exfalso; first | omega | contradiction))
  refine LoopK.o2 (fun x : Nat × List Sg => i0 + 1 ≤ x.1 ∧ x.1 ≤ l.length ∧ x.2.length = l.length ∧ (∀ k, x.1 ≤ k → x.2[k]? = l[k]?) ∧ x.2.take (kpL p l x.1).length = kpL p l x.1 ∧ (kpL p l x.1).length < x.1)
    (fun x => [(5, .d (.int .i64 (kpL p l x.1).length)), (6, .d (.int .i64 x.1))]) (fun x => [(1000, .row 36 5 (x.2.map sgD) false)]) (fun x => l.length - x.1) (i0 + 1, l) ⟨by omega, by omega, rfl, fun _ _ => rfl, by rw [hk0, k0], by rw [hk0]; exact Nat.lt_succ_self _⟩ (by refine ⟨?_, ?_, rfl⟩ <;> (repeat' (first | exact True.intro | exact rfl | refine ⟨?_, ?_⟩ | (intro h; cases h; done) | (intro h; exact h) | exact map_snoc | (refine own_congr ?_; simp; done) | (refine int_congr ?_; (first | omega | (simp; omega))) | (simp; done) | ((first | refine own_congr ?_ | refine int_congr ?_ | skip); simp [hk0]; done) | ((first | refine own_congr ?_ | refine int_congr ?_); simp [hk0]; omega) | (show @Eq (List Go.Vm.D) _ []; simp [hk0]; done) | (simp [D.cells, hk0]; done)))) ?_
  rintro ⟨j, m⟩ ⟨h1, h2, h3, h4, h5, h6⟩
  dsimp only at h1 h2 h3 h4 h5 h6 ⊢
  have em : (m.map sgD).length = m.length := List.length_map _
  have hnx : (j : Int) < l.length → ∃ x, l[j]? = some x := fun h => some_of_lt (by omega)
  have e6 := kp_le p l j
  conv => whnf
  repeat' (first
    | ((with_reducible refine Split.of_true ?_); conv => whnf)
    | ((with_reducible refine Split.of_false ?_); conv => whnf)
    | ((with_reducible refine Split.neg ?_))
    | ((with_reducible refine Split.is_true ?_ ?_); decide; conv => whnf)
    | ((with_reducible refine Split.is_false ?_ ?_); decide; conv => whnf)
    | ((with_reducible refine Split.nez (fun _ => ?_) (fun _ => ?_)) <;> conv => whnf)
    | ((with_reducible refine Split.eqz (fun _ => ?_) (fun _ => ?_)) <;> conv => whnf)
    | ((with_reducible refine Split.and ?_))
    | ((with_reducible refine Split.or ?_))
    | ((with_reducible refine Split.streq (fun _ => ?_) (fun _ => ?_)) <;> conv => whnf)
    | ((with_reducible refine Split.dec (fun _ => ?_) (fun _ => ?_)) <;> conv => whnf)
    | ((with_reducible refine Split.mk (fun _ => ?_) (fun _ => ?_)) <;> conv => whnf)
    | ((with_reducible refine NilK.mk (fun _ => ?_) ?_) <;> conv => whnf)
    | ((with_reducible refine Need.mk ?_ ?_); (first | omega | rfl | decide | (refine ⟨?_, ?_⟩ <;> simp <;> omega) | (simp; omega)); conv => whnf)
    | ((with_reducible refine Wr.quo ?_ ?_ ?_ ?_); omega; omega; omega; conv => whnf)
    | ((with_reducible refine Wr.inr ?_ ?_); (first | omega | (simp; omega)); conv => whnf)
    | ((with_reducible refine Wr.inu ?_ ?_); omega; conv => whnf)
    | (exfalso; first | omega | contradiction))
  · obtain ⟨x, hx⟩ := hnx (by omega)
    have hxm : m[j]? = some x := (h4 j (Nat.le_refl _)).trans hx
    have hp := hf x (List.mem_of_getElem? hx)
    have hs := kp_snoc (p := p) hx
    cases hpx : p x with
    | true =>
      rw [if_pos hpx] at hs
      rw [hpx] at hp
      conv => whnf
      repeat' (first
        | ((refine PickE.map j hxm (by omega) ?_); conv => whnf)
        | ((with_reducible refine Split.of_true ?_); conv => whnf)
        | ((with_reducible refine Split.of_false ?_); conv => whnf)
        | ((with_reducible refine Split.neg ?_))
        | ((with_reducible refine Split.is_true ?_ ?_); decide; conv => whnf)
        | ((with_reducible refine Split.is_false ?_ ?_); decide; conv => whnf)
        | ((with_reducible refine Split.nez (fun _ => ?_) (fun _ => ?_)) <;> conv => whnf)
        | ((with_reducible refine Split.eqz (fun _ => ?_) (fun _ => ?_)) <;> conv => whnf)
        | ((with_reducible refine Split.and ?_))
        | ((with_reducible refine Split.or ?_))
        | ((with_reducible refine Split.streq (fun _ => ?_) (fun _ => ?_)) <;> conv => whnf)
        | ((with_reducible refine Split.dec (fun _ => ?_) (fun _ => ?_)) <;> conv => whnf)
        | ((with_reducible refine Split.mk (fun _ => ?_) (fun _ => ?_)) <;> conv => whnf)
        | ((with_reducible refine NilK.mk (fun _ => ?_) ?_) <;> conv => whnf)
        | ((with_reducible refine AltK.l ?_); (conv => whnf); (with_reducible refine Need.mk ?_ ?_); (first | omega | (refine ⟨?_, ?_⟩ <;> simp <;> omega) | (simp; omega)); conv => whnf)
        | ((with_reducible refine Need.mk ?_ ?_); (first | omega | rfl | decide | (refine ⟨?_, ?_⟩ <;> simp <;> omega) | (simp; omega)); conv => whnf)
        | ((with_reducible refine Wr.quo ?_ ?_ ?_ ?_); omega; omega; omega; conv => whnf)
        | ((with_reducible refine Wr.inr ?_ ?_); (first | omega | (simp; omega)); conv => whnf)
        | ((with_reducible refine Wr.inu ?_ ?_); omega; conv => whnf)
        | ((with_reducible refine AltK.r ?_); (conv => whnf); (first | (refine CallX.mk _ _ (hp) rfl ?_)); conv => whnf)
        | (exfalso; first | omega | contradiction))
      refine Again.au (j + 1, m) ⟨by omega, by omega, h3, fun k hk => h4 k (by omega), by rw [hs]; exact h5, by rw [hs]; omega⟩ (by dsimp only; omega) (by refine ⟨?_, ?_, rfl⟩ <;> (repeat' (first | exact True.intro | exact rfl | refine ⟨?_, ?_⟩ | (intro h; cases h; done) | (intro h; exact h) | exact map_snoc | (refine own_congr ?_; simp; done) | (refine int_congr ?_; (first | omega | (simp; omega))) | (simp; done) | ((first | refine own_congr ?_ | refine int_congr ?_ | skip); simp [hs]; done) | ((first | refine own_congr ?_ | refine int_congr ?_); simp [hs]; omega) | (show @Eq (List Go.Vm.D) _ []; simp [hs]; done) | (simp [D.cells, hs]; done))))
    | false =>
      rw [hpx, if_neg (by decide)] at hs
      rw [hpx] at hp
      obtain ⟨y, hy⟩ := some_of_lt (l := m) (i := (kpL p l j).length) (by omega)
      conv => whnf
      repeat' (first
        | ((refine PickE.map (kpL p l j).length hy (by omega) ?_); conv => whnf)
        | ((refine PickE.map j hxm (by omega) ?_); conv => whnf)
        | ((with_reducible refine Split.of_true ?_); conv => whnf)
        | ((with_reducible refine Split.of_false ?_); conv => whnf)
        | ((with_reducible refine Split.neg ?_))
        | ((with_reducible refine Split.is_true ?_ ?_); decide; conv => whnf)
        | ((with_reducible refine Split.is_false ?_ ?_); decide; conv => whnf)
        | ((with_reducible refine Split.nez (fun _ => ?_) (fun _ => ?_)) <;> conv => whnf)
        | ((with_reducible refine Split.eqz (fun _ => ?_) (fun _ => ?_)) <;> conv => whnf)
        | ((with_reducible refine Split.and ?_))
        | ((with_reducible refine Split.or ?_))
        | ((with_reducible refine Split.streq (fun _ => ?_) (fun _ => ?_)) <;> conv => whnf)
        | ((with_reducible refine Split.dec (fun _ => ?_) (fun _ => ?_)) <;> conv => whnf)
        | ((with_reducible refine Split.mk (fun _ => ?_) (fun _ => ?_)) <;> conv => whnf)
        | ((with_reducible refine NilK.mk (fun _ => ?_) ?_) <;> conv => whnf)
        | ((with_reducible refine AltK.l ?_); (conv => whnf); (with_reducible refine Need.mk ?_ ?_); (first | omega | (refine ⟨?_, ?_⟩ <;> simp <;> omega) | (simp; omega)); conv => whnf)
        | ((with_reducible refine Need.mk ?_ ?_); (first | omega | rfl | decide | (refine ⟨?_, ?_⟩ <;> simp <;> omega) | (simp; omega)); conv => whnf)
        | ((with_reducible refine Wr.quo ?_ ?_ ?_ ?_); omega; omega; omega; conv => whnf)
        | ((with_reducible refine Wr.inr ?_ ?_); (first | omega | (simp; omega)); conv => whnf)
        | ((with_reducible refine Wr.inu ?_ ?_); omega; conv => whnf)
        | ((with_reducible refine AltK.r ?_); (conv => whnf); (first | (refine CallX.mk _ _ (hp) rfl ?_)); conv => whnf)
        | (exfalso; first | omega | contradiction))
      refine Again.au (j + 1, m.set (kpL p l j).length x) ⟨by omega, by omega, by rw [List.length_set]; exact h3, fun k hk => by rw [List.getElem?_set_ne (by omega)]; exact h4 k (by omega), ?_, by rw [hs, List.length_append, List.length_singleton]; omega⟩ (by dsimp only; omega) (by refine ⟨?_, ?_, rfl⟩ <;> (repeat' (first | exact True.intro | exact rfl | refine ⟨?_, ?_⟩ | (intro h; cases h; done) | (intro h; exact h) | exact map_snoc | (refine own_congr ?_; simp; done) | (refine int_congr ?_; (first | omega | (simp; omega))) | (simp; done) | ((first | refine own_congr ?_ | refine int_congr ?_ | skip); simp [hs,sgD,List.map_set]; done) | ((first | refine own_congr ?_ | refine int_congr ?_); simp [hs,sgD,List.map_set]; omega) | (show @Eq (List Go.Vm.D) _ []; simp [hs,sgD,List.map_set]; done) | (simp [D.cells, hs,sgD,List.map_set]; done))))
      rw [hs, List.length_append, List.length_singleton, ← take_set_snoc (by omega), h5]
  · have ej : j = l.length := by omega
    have ek : kpL p l j = l.filter fun x => !p x := by rw [ej, kpL, List.take_length]
    have h5' : (m.map sgD).take (kpL p l j).length = (kpL p l j).map sgD := by rw [← List.map_take, h5]
    refine AltK.r (AltK.l ?_)
    conv => whnf
    conv => whnf
    repeat' (first
      | ((with_reducible refine Split.of_true ?_); conv => whnf)
      | ((with_reducible refine Split.of_false ?_); conv => whnf)
      | ((with_reducible refine Split.neg ?_))
      | ((with_reducible refine Split.is_true ?_ ?_); decide; conv => whnf)
      | ((with_reducible refine Split.is_false ?_ ?_); decide; conv => whnf)
      | ((with_reducible refine Split.nez (fun _ => ?_) (fun _ => ?_)) <;> conv => whnf)
      | ((with_reducible refine Split.eqz (fun _ => ?_) (fun _ => ?_)) <;> conv => whnf)
      | ((with_reducible refine Split.and ?_))
      | ((with_reducible refine Split.or ?_))
      | ((with_reducible refine Split.streq (fun _ => ?_) (fun _ => ?_)) <;> conv => whnf)
      | ((with_reducible refine Split.dec (fun _ => ?_) (fun _ => ?_)) <;> conv => whnf)
      | ((with_reducible refine Split.mk (fun _ => ?_) (fun _ => ?_)) <;> conv => whnf)
      | ((with_reducible refine NilK.mk (fun _ => ?_) ?_) <;> conv => whnf)
      | ((with_reducible refine Need.mk ?_ ?_); (first | omega | rfl | decide | (refine ⟨?_, ?_⟩ <;> simp <;> omega) | (simp; omega)); conv => whnf)
      | ((with_reducible refine Wr.quo ?_ ?_ ?_ ?_); omega; omega; omega; conv => whnf)
      | ((with_reducible refine Wr.inr ?_ ?_); (first | omega | (simp; omega)); conv => whnf)
      | ((with_reducible refine Wr.inu ?_ ?_); omega; conv => whnf)
      | (exfalso; first | omega | contradiction))
    refine AltK.r (AltK.r ?_)
    conv => whnf
    conv => whnf
    repeat' (first
      | ((with_reducible refine Split.of_true ?_); conv => whnf)
      | ((with_reducible refine Split.of_false ?_); conv => whnf)
      | ((with_reducible refine Split.neg ?_))
      | ((with_reducible refine Split.is_true ?_ ?_); decide; conv => whnf)
      | ((with_reducible refine Split.is_false ?_ ?_); decide; conv => whnf)
      | ((with_reducible refine Split.nez (fun _ => ?_) (fun _ => ?_)) <;> conv => whnf)
      | ((with_reducible refine Split.eqz (fun _ => ?_) (fun _ => ?_)) <;> conv => whnf)
      | ((with_reducible refine Split.and ?_))
      | ((with_reducible refine Split.or ?_))
      | ((with_reducible refine Split.streq (fun _ => ?_) (fun _ => ?_)) <;> conv => whnf)
      | ((with_reducible refine Split.dec (fun _ => ?_) (fun _ => ?_)) <;> conv => whnf)
      | ((with_reducible refine Split.mk (fun _ => ?_) (fun _ => ?_)) <;> conv => whnf)
      | ((with_reducible refine NilK.mk (fun _ => ?_) ?_) <;> conv => whnf)
      | ((with_reducible refine Need.mk ?_ ?_); (first | omega | rfl | decide | (refine ⟨?_, ?_⟩ <;> simp <;> omega) | (simp; omega)); conv => whnf)
      | ((with_reducible refine Wr.quo ?_ ?_ ?_ ?_); omega; omega; omega; conv => whnf)
      | ((with_reducible refine Wr.inr ?_ ?_); (first | omega | (simp; omega)); conv => whnf)
      | ((with_reducible refine Wr.inu ?_ ?_); omega; conv => whnf)
      | (exfalso; first | omega | contradiction))
    rw [← ek]
    exact ⟨⟨[(9, some 41)], (by refine ⟨?_, ?_, rfl⟩ <;> (repeat' (first | exact True.intro | exact rfl | refine ⟨?_, ?_⟩ | (intro h; cases h; done) | (intro h; exact h) | exact map_snoc | (refine own_congr ?_; simp; done) | (refine int_congr ?_; (first | omega | (simp; omega))) | (simp; done) | ((first | refine own_congr ?_ | refine int_congr ?_ | skip); simp [h5']; done) | ((first | refine own_congr ?_ | refine int_congr ?_); simp [h5']; omega) | (show @Eq (List Go.Vm.D) _ []; simp [h5']; done) | (simp [D.cells, h5']; done))))⟩, rfl⟩
end Go.Proofs.Tryz
end
