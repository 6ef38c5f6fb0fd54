/- Texts SdU SdHm SdO SdZ SdR SdV SdM, joined; what is not needed is left out. -/
import Derived.Test.YtkkngciaphfifaaGreatMpd
section
namespace Go.Proofs.Tryz
open Go Go.Vm Go.Sort
set_option maxRecDepth 20000
set_option maxHeartbeats 4000000
/-! The reference's nearest soundings: it takes the least one that is left, again and again. -/
def dnN (p : Sg → Bool) (o : List Sg) (s : Sg) : Bool := !p s || dnF o s
def MinN (cf : Sg → Sg → Int) (l : List Sg) (d : Sg → Bool) (i : Nat) (c : Int) : Prop := (c = -1 ∧ ∀ y ∈ l.take i, d y = true) ∨ ∃ z, 0 ≤ c ∧ c < i ∧ l[c.toNat]? = some z ∧ d z = false ∧ ∀ y ∈ l.take i, d y = false → y = z ∨ cf z y < 0
theorem minN_done {cf : Sg → Sg → Int} {l : List Sg} {d : Sg → Bool} {i : Nat} {c : Int} {s : Sg} (h : MinN cf l d i c) (hs : l[i]? = some s) (hd : d s = true) : MinN cf l d (i + 1) c := by
  rcases h with ⟨h1, h2⟩ | ⟨z, h1, h2, h3, h4, h5⟩
  · refine .inl ⟨h1, fun y hy => ?_⟩
    rw [take_snoc hs] at hy
    rcases List.mem_append.1 hy with hy | hy
    · exact h2 y hy
    · rw [List.mem_singleton.1 hy]; exact hd
  · refine .inr ⟨z, h1, by omega, h3, h4, fun y hy hyd => ?_⟩
    rw [take_snoc hs] at hy
    rcases List.mem_append.1 hy with hy | hy
    · exact h5 y hy hyd
    · rw [List.mem_singleton.1 hy, hd] at hyd; cases hyd
theorem minN_first {cf : Sg → Sg → Int} {l : List Sg} {d : Sg → Bool} {i : Nat} {s : Sg} (h : ∀ y ∈ l.take i, d y = true) (hs : l[i]? = some s) (hd : d s = false) : MinN cf l d (i + 1) i := by
  refine .inr ⟨s, by omega, by omega, by simpa using hs, hd, fun y hy hyd => ?_⟩
  rw [take_snoc hs] at hy
  rcases List.mem_append.1 hy with hy | hy
  · rw [h y hy] at hyd; cases hyd
  · exact .inl (List.mem_singleton.1 hy)
theorem minN_take {cf : Sg → Sg → Int} (ht : ∀ a b c, cf a b < 0 → cf b c < 0 → cf a c < 0) {l : List Sg} {d : Sg → Bool} {i : Nat} {s z : Sg} (h5 : ∀ y ∈ l.take i, d y = false → y = z ∨ cf z y < 0) (hs : l[i]? = some s) (hd : d s = false) (hc : cf s z < 0) : MinN cf l d (i + 1) i := by
  refine .inr ⟨s, by omega, by omega, by simpa using hs, hd, fun y hy hyd => ?_⟩
  rw [take_snoc hs] at hy
  rcases List.mem_append.1 hy with hy | hy
  · rcases h5 y hy hyd with rfl | h
    · exact .inr hc
    · exact .inr (ht s z y hc h)
  · exact .inl (List.mem_singleton.1 hy)
theorem minN_keep {cf : Sg → Sg → Int} {l : List Sg} (hT : ∀ a ∈ l, ∀ b ∈ l, ¬ cf a b < 0 → ¬ cf b a < 0 → a = b) {d : Sg → Bool} {i : Nat} {c : Int} {s z : Sg} (h1 : 0 ≤ c) (h2 : c < i) (h3 : l[c.toNat]? = some z) (h4 : d z = false) (h5 : ∀ y ∈ l.take i, d y = false → y = z ∨ cf z y < 0) (hs : l[i]? = some s) (hc : ¬ cf s z < 0) : MinN cf l d (i + 1) c := by
  refine .inr ⟨z, h1, by omega, h3, h4, fun y hy hyd => ?_⟩
  rw [take_snoc hs] at hy
  rcases List.mem_append.1 hy with hy | hy
  · exact h5 y hy hyd
  · rw [List.mem_singleton.1 hy]
    by_cases e : cf z s < 0
    · exact .inr e
    · exact .inl (hT s (List.mem_of_getElem? hs) z (List.mem_of_getElem? h3) hc e)
theorem pickN {x y : Int} {p : Sg → Bool} {l : List Sg} (hu : NoTwo l) {n : Nat} {s : Sg} (hs : s ∈ l) (hd : dnN p ((nearS x y p l).take n) s = false) (hm : ∀ t ∈ l, dnN p ((nearS x y p l).take n) t = false → t = s ∨ cfNear x y s t < 0) : (nearS x y p l)[n]? = some s := by
  have hup : NoTwo (l.filter p) := hu.filter _
  rw [dnN, Bool.or_eq_false_iff] at hd
  refine pick_next (lt := fun a b => cfNear x y a b < 0) (fun a b h1 h2 => by rw [cfNear_lt] at h1 h2; omega) (sortL_perm (cfNear x y) (l.filter p)) (sortL_strict (swoNear x y) (noTwo_nodup hup) (near_tot x y hup)) (List.mem_filter.2 ⟨hs, by simpa using hd.1⟩) (fun h => ?_) fun t ht htn => hm t ((List.mem_filter.1 ht).1) ?_
  · exact dnF_not.1 hd.2 s h rfl
  · rw [dnN, (List.mem_filter.1 ht).2, Bool.not_true, Bool.false_or, dnF_not]
    intro u hu1 e
    have := noTwo_eq hup u ((sortL_perm _ _).subset (List.mem_of_mem_take hu1)) t ht e
    exact htn (this ▸ hu1)
/-- Nothing is left: the sorted list is taken whole. -/
theorem endN {x y : Int} {p : Sg → Bool} {l : List Sg} (hu : NoTwo l) {n : Nat} (h : ∀ t ∈ l, dnN p ((nearS x y p l).take n) t = true) : (nearS x y p l).length ≤ n := by
  rcases Nat.lt_or_ge n (nearS x y p l).length with hn | hn
  · exfalso
    have hP : NoTwo (nearS x y p l) := noTwo_perm (sortL_perm _ _).symm (hu.filter _)
    have hm := near_mem (List.getElem_mem hn)
    have := h _ hm.1
    rw [dnN, hm.2, Bool.not_true, Bool.false_or, dnF_iff] at this
    obtain ⟨t, ht, e⟩ := this
    obtain ⟨m, hm2, rfl⟩ := List.mem_take_iff_getElem.1 ht
    exact List.pairwise_iff_getElem.1 hP m n (by omega) hn (by omega) e
  · exact hn
theorem find_at {l : List Sg} (hu : NoTwo l) {i : Nat} {s : Sg} (h : l[i]? = some s) : findS l s.n = i := by
  obtain ⟨j, t, h1, h2, h3⟩ := find_num (l := l) (m := s.n) (List.mem_map.2 ⟨s, List.mem_of_getElem? h, rfl⟩)
  rw [h1]
  obtain ⟨a1, a2⟩ := List.getElem?_eq_some_iff.1 h
  obtain ⟨b1, b2⟩ := List.getElem?_eq_some_iff.1 h2
  rcases Nat.lt_trichotomy i j with h4 | h4 | h4
  · exact absurd (by rw [a2, b2, h3]) (List.pairwise_iff_getElem.1 hu i j a1 b1 h4)
  · rw [h4]
  · exact absurd (by rw [a2, b2, h3]) (List.pairwise_iff_getElem.1 hu j i b1 a1 h4)
def butP (l : List Sg) (but : Int) (s : Sg) : Bool := decide (findS l s.n ≠ but)
def nearI (x y : Int) (l : List Sg) (but : Int) (n : Nat) : List Int := ((nearS x y (butP l but) l).take n).map fun s => findS l s.n
theorem nearI_snoc {x y : Int} {l : List Sg} {but : Int} {n : Nat} {s : Sg} (h : (nearS x y (butP l but) l)[n]? = some s) : nearI x y l but (n + 1) = nearI x y l but n ++ [findS l s.n] := by
  rw [nearI, take_snoc h, List.map_append]; rfl
theorem ev_nearestR (l : List Sg) (x y n but : Int) (hu : NoTwo l) (hl : l.length ≤ 600) (hp : ∀ s ∈ l, -1000000 ≤ s.x ∧ s.x ≤ 1000000 ∧ -1000000 ≤ s.y ∧ s.y ≤ 1000000) (hx : -1000000 ≤ x ∧ x ≤ 1000000 ∧ -1000000 ≤ y ∧ y ≤ 1000000) (hn : n ≤ 1000000) :
    Ev Tryz.prog 98 [.sl 5 (l.map sgD), .agg [iD x, iD y], iD n, iD but] (.sl 1 ((nearI x y l but n.toNat).map iD)) := by
  have hlen : (l.map sgD).length = l.length := List.length_map _
  have hnl := near_len x y (butP l but) l
  have hnI : ∀ k, (nearI x y l but k).length ≤ l.length := fun k => by rw [nearI, List.length_map, List.length_take]; omega
  have hmp2 : List.replicate ((l.map sgD).length : Int).toNat (D.bool false) = l.map fun s => D.bool (dnF ((nearS x y (butP l but) l).take 0) s) := by
    rw [Int.toNat_natCast, hlen]; exact (dn_zero l).symm
  refine ev_of_awp tysOk mixed (fn := Tryz.f98) Tryz.func98 rfl rfl rfl ?_
  conv => whnf
  repeat' (first
    | ((with_reducible refine Split.of_true ?_); conv => whnf)
    | ((with_reducible refine Split.of_false ?_); conv => whnf)
    | ((with_reducible refine Split.neg ?_))
    | ((with_reducible refine Split.is_true ?_ ?_); decide; conv => whnf)
    | ((with_reducible refine Split.is_false ?_ ?_); decide; conv => whnf)
    | ((with_reducible refine Split.nez (fun _ => ?_) (fun _ => ?_)) <;> conv => whnf)
    | ((with_reducible refine Split.eqz (fun _ => ?_) (fun _ => ?_)) <;> conv => whnf)
    | ((with_reducible refine Split.and ?_))
    | ((with_reducible refine Split.or ?_))
    | ((with_reducible refine Split.streq (fun _ => ?_) (fun _ => ?_)) <;> conv => whnf)
    | ((with_reducible refine Split.dec (fun _ => ?_) (fun _ => ?_)) <;> conv => whnf)
    | ((with_reducible refine Split.mk (fun _ => ?_) (fun _ => ?_)) <;> conv => whnf)
    | ((with_reducible refine NilK.mk (fun _ => ?_) ?_) <;> conv => whnf)
    | ((with_reducible refine AltK.l ?_); (conv => whnf); (with_reducible refine Need.mk ?_ ?_); (first | omega | (refine ⟨?_, ?_⟩ <;> simp <;> omega) | (simp; omega)); conv => whnf)
    | ((with_reducible refine Need.mk ?_ ?_); (first | omega | rfl | decide | (refine ⟨?_, ?_⟩ <;> simp <;> omega) | (simp; omega)); conv => whnf)
    | ((with_reducible refine Wr.quo ?_ ?_ ?_ ?_); omega; omega; omega; conv => whnf)
    | ((with_reducible refine Wr.inr ?_ ?_); (first | omega | (simp; omega)); conv => whnf)
    | ((with_reducible refine Wr.inu ?_ ?_); omega; conv => whnf)
    | (exfalso; first | omega | contradiction))
  refine LoopK.o2 (fun k : Nat => k ≤ n.toNat ∧ k ≤ (nearS x y (butP l but) l).length) (fun k => [(9, .own 200 1 ((nearI x y l but k).map iD).length), (11, .d (.int .i64 k))])
    (fun k => [(200, .row 3 1 ((nearI x y l but k).map iD) false), (18, .row 4 1 (l.map fun s => .bool (dnF ((nearS x y (butP l but) l).take k) s)) false)]) (fun k => n.toNat - k) 0 ⟨by omega, by omega⟩ (by refine ⟨?_, ?_, rfl⟩ <;> (repeat' (first | exact True.intro | exact rfl | refine ⟨?_, ?_⟩ | (intro h; cases h; done) | (intro h; exact h) | exact map_snoc | (refine own_congr ?_; simp; done) | (refine int_congr ?_; (first | omega | (simp; omega))) | (simp; done) | exact hmp2 | ((first | refine own_congr ?_ | refine int_congr ?_ | skip); simp [nearI]; done) | ((first | refine own_congr ?_ | refine int_congr ?_); simp [nearI]; omega) | (show @Eq (List Go.Vm.D) _ []; simp [nearI]; done) | (simp [D.cells, nearI]; done)))) ?_
  rintro k ⟨hk1, hk2⟩
  conv => whnf
  repeat' (first
    | ((with_reducible refine Split.of_true ?_); conv => whnf)
    | ((with_reducible refine Split.of_false ?_); conv => whnf)
    | ((with_reducible refine Split.neg ?_))
    | ((with_reducible refine Split.is_true ?_ ?_); decide; conv => whnf)
    | ((with_reducible refine Split.is_false ?_ ?_); decide; conv => whnf)
    | ((with_reducible refine Split.nez (fun _ => ?_) (fun _ => ?_)) <;> conv => whnf)
    | ((with_reducible refine Split.eqz (fun _ => ?_) (fun _ => ?_)) <;> conv => whnf)
    | ((with_reducible refine Split.and ?_))
    | ((with_reducible refine Split.or ?_))
    | ((with_reducible refine Split.streq (fun _ => ?_) (fun _ => ?_)) <;> conv => whnf)
    | ((with_reducible refine Split.dec (fun _ => ?_) (fun _ => ?_)) <;> conv => whnf)
    | ((with_reducible refine Split.mk (fun _ => ?_) (fun _ => ?_)) <;> conv => whnf)
    | ((with_reducible refine NilK.mk (fun _ => ?_) ?_) <;> conv => whnf)
    | ((with_reducible refine AltK.l ?_); (conv => whnf); (with_reducible refine Need.mk ?_ ?_); (first | omega | (refine ⟨?_, ?_⟩ <;> simp <;> omega) | (simp; omega)); conv => whnf)
    | ((with_reducible refine Need.mk ?_ ?_); (first | omega | rfl | decide | (refine ⟨?_, ?_⟩ <;> simp <;> omega) | (simp; omega)); conv => whnf)
    | ((with_reducible refine Wr.quo ?_ ?_ ?_ ?_); omega; omega; omega; conv => whnf)
    | ((with_reducible refine Wr.inr ?_ ?_); (first | omega | (simp; omega)); conv => whnf)
    | ((with_reducible refine Wr.inu ?_ ?_); omega; conv => whnf)
    | (exfalso; first | omega | contradiction))
  · refine LoopK.o2 (fun z : Nat × Int => z.1 ≤ l.length ∧ MinN (cfNear x y) l (dnN (butP l but) ((nearS x y (butP l but) l).take k)) z.1 z.2) (fun z => [(13, .d (.int .i64 z.1)), (12, .d (.int .i64 z.2))]) (fun _ => []) (fun z => l.length - z.1) (0, -1) ⟨by omega, .inl ⟨rfl, fun y hy => by simp at hy⟩⟩ (by refine ⟨?_, ?_, rfl⟩ <;> (repeat' (first | exact True.intro | exact rfl | refine ⟨?_, ?_⟩ | (intro h; cases h; done) | (intro h; exact h) | exact map_snoc | (refine own_congr ?_; simp; done) | (refine int_congr ?_; (first | omega | (simp; omega))) | (simp; done)))) ?_
    rintro ⟨i, c⟩ ⟨hi, hM⟩
    dsimp only at hi hM
    have hnx : (i : Int) < l.length → ∃ m, l[i]? = some m := fun h => some_of_lt (by omega)
    conv => whnf
    repeat' (first
      | ((with_reducible refine Split.of_true ?_); conv => whnf)
      | ((with_reducible refine Split.of_false ?_); conv => whnf)
      | ((with_reducible refine Split.neg ?_))
      | ((with_reducible refine Split.is_true ?_ ?_); decide; conv => whnf)
      | ((with_reducible refine Split.is_false ?_ ?_); decide; conv => whnf)
      | ((with_reducible refine Split.nez (fun _ => ?_) (fun _ => ?_)) <;> conv => whnf)
      | ((with_reducible refine Split.eqz (fun _ => ?_) (fun _ => ?_)) <;> conv => whnf)
      | ((with_reducible refine Split.and ?_))
      | ((with_reducible refine Split.or ?_))
      | ((with_reducible refine Split.streq (fun _ => ?_) (fun _ => ?_)) <;> conv => whnf)
      | ((with_reducible refine Split.dec (fun _ => ?_) (fun _ => ?_)) <;> conv => whnf)
      | ((with_reducible refine Split.mk (fun _ => ?_) (fun _ => ?_)) <;> conv => whnf)
      | ((with_reducible refine NilK.mk (fun _ => ?_) ?_) <;> conv => whnf)
      | ((with_reducible refine AltK.l ?_); (conv => whnf); (with_reducible refine Need.mk ?_ ?_); (first | omega | (refine ⟨?_, ?_⟩ <;> simp <;> omega) | (simp; omega)); conv => whnf)
      | ((with_reducible refine Need.mk ?_ ?_); (first | omega | rfl | decide | (refine ⟨?_, ?_⟩ <;> simp <;> omega) | (simp; omega)); conv => whnf)
      | ((with_reducible refine Wr.quo ?_ ?_ ?_ ?_); omega; omega; omega; conv => whnf)
      | ((with_reducible refine Wr.inr ?_ ?_); (first | omega | (simp; omega)); conv => whnf)
      | ((with_reducible refine Wr.inu ?_ ?_); omega; conv => whnf)
      | (exfalso; first | omega | contradiction))
    · obtain ⟨s, hs⟩ := hnx (by omega)
      have hM0 := hM
      have hfs := find_at hu hs
      have hsp := hp s (List.mem_of_getElem? hs)
      have hdn : dnN (butP l but) ((nearS x y (butP l but) l).take k) s = (decide ((i : Int) = but) || dnF ((nearS x y (butP l but) l).take k) s) := by simp [dnN, butP, hfs]
      have hd1 : dnF ((nearS x y (butP l but) l).take k) s = true → dnN (butP l but) ((nearS x y (butP l but) l).take k) s = true := fun h => by rw [hdn, h, Bool.or_true]
      have hd2 : (i : Int) = but → dnN (butP l but) ((nearS x y (butP l but) l).take k) s = true := fun h => by rw [hdn, decide_eq_true h, Bool.true_or]
      have hd3 : dnF ((nearS x y (butP l but) l).take k) s = false → (i : Int) ≠ but → dnN (butP l but) ((nearS x y (butP l but) l).take k) s = false := fun h h' => by rw [hdn, h, decide_eq_false h', Bool.or_false]
      rcases hM with ⟨rfl, hM⟩ | ⟨z, g1, g2, g3, g4, g5⟩
      · conv => whnf
        repeat' (first
          | ((refine PickE.map i hs (by omega) ?_); conv => whnf)
          | ((with_reducible refine Split.of_true ?_); conv => whnf)
          | ((with_reducible refine Split.of_false ?_); conv => whnf)
          | ((with_reducible refine Split.neg ?_))
          | ((with_reducible refine Split.is_true ?_ ?_); decide; conv => whnf)
          | ((with_reducible refine Split.is_false ?_ ?_); decide; conv => whnf)
          | ((with_reducible refine Split.nez (fun _ => ?_) (fun _ => ?_)) <;> conv => whnf)
          | ((with_reducible refine Split.eqz (fun _ => ?_) (fun _ => ?_)) <;> conv => whnf)
          | ((with_reducible refine Split.and ?_))
          | ((with_reducible refine Split.or ?_))
          | ((with_reducible refine Split.streq (fun _ => ?_) (fun _ => ?_)) <;> conv => whnf)
          | ((with_reducible refine Split.dec (fun _ => ?_) (fun _ => ?_)) <;> conv => whnf)
          | ((with_reducible refine Split.mk (fun _ => ?_) (fun _ => ?_)) <;> conv => whnf)
          | ((with_reducible refine NilK.mk (fun _ => ?_) ?_) <;> conv => whnf)
          | ((with_reducible refine AltK.l ?_); (conv => whnf); (with_reducible refine Need.mk ?_ ?_); (first | omega | (refine ⟨?_, ?_⟩ <;> simp <;> omega) | (simp; omega)); conv => whnf)
          | ((with_reducible refine Need.mk ?_ ?_); (first | omega | rfl | decide | (refine ⟨?_, ?_⟩ <;> simp <;> omega) | (simp; omega)); conv => whnf)
          | ((with_reducible refine Wr.quo ?_ ?_ ?_ ?_); omega; omega; omega; conv => whnf)
          | ((with_reducible refine Wr.inr ?_ ?_); (first | omega | (simp; omega)); conv => whnf)
          | ((with_reducible refine Wr.inu ?_ ?_); omega; conv => whnf)
          | (exfalso; first | omega | contradiction))
        · exact Again.au (i + 1, -1) ⟨by dsimp only at *; omega, minN_done hM0 hs (hd1 (by assumption))⟩ (by dsimp only at *; omega) (by refine ⟨?_, ?_, rfl⟩ <;> (repeat' (first | exact True.intro | exact rfl | refine ⟨?_, ?_⟩ | (intro h; cases h; done) | (intro h; exact h) | exact map_snoc | (refine own_congr ?_; simp; done) | (refine int_congr ?_; (first | omega | (simp; omega))) | (simp; done))))
        · exact Again.au (i + 1, -1) ⟨by dsimp only at *; omega, minN_done hM0 hs (hd2 (by assumption))⟩ (by dsimp only at *; omega) (by refine ⟨?_, ?_, rfl⟩ <;> (repeat' (first | exact True.intro | exact rfl | refine ⟨?_, ?_⟩ | (intro h; cases h; done) | (intro h; exact h) | exact map_snoc | (refine own_congr ?_; simp; done) | (refine int_congr ?_; (first | omega | (simp; omega))) | (simp; done))))
        · exact Again.au (i + 1, (i : Int)) ⟨by dsimp only at *; omega, minN_first hM hs (hd3 (by assumption) (by assumption))⟩ (by dsimp only at *; omega) (by refine ⟨?_, ?_, rfl⟩ <;> (repeat' (first | exact True.intro | exact rfl | refine ⟨?_, ?_⟩ | (intro h; cases h; done) | (intro h; exact h) | exact map_snoc | (refine own_congr ?_; simp; done) | (refine int_congr ?_; (first | omega | (simp; omega))) | (simp; done))))
      · have hzp := hp z (List.mem_of_getElem? g3)
        have q1 := ev_Square s.x s.y x y hsp hx
        have q2 := ev_Square z.x z.y x y hzp hx
        have hcf := cfNear_lt x y s z
        simp only [sqS] at hcf
        conv => whnf
        repeat' (first
          | ((refine PickE.map c.toNat g3 (by omega) ?_); conv => whnf)
          | ((refine PickE.map i hs (by omega) ?_); conv => whnf)
          | ((with_reducible refine Split.of_true ?_); conv => whnf)
          | ((with_reducible refine Split.of_false ?_); conv => whnf)
          | ((with_reducible refine Split.neg ?_))
          | ((with_reducible refine Split.is_true ?_ ?_); decide; conv => whnf)
          | ((with_reducible refine Split.is_false ?_ ?_); decide; conv => whnf)
          | ((with_reducible refine Split.nez (fun _ => ?_) (fun _ => ?_)) <;> conv => whnf)
          | ((with_reducible refine Split.eqz (fun _ => ?_) (fun _ => ?_)) <;> conv => whnf)
          | ((with_reducible refine Split.and ?_))
          | ((with_reducible refine Split.or ?_))
          | ((with_reducible refine Split.streq (fun _ => ?_) (fun _ => ?_)) <;> conv => whnf)
          | ((with_reducible refine Split.dec (fun _ => ?_) (fun _ => ?_)) <;> conv => whnf)
          | ((with_reducible refine Split.mk (fun _ => ?_) (fun _ => ?_)) <;> conv => whnf)
          | ((with_reducible refine NilK.mk (fun _ => ?_) ?_) <;> conv => whnf)
          | ((with_reducible refine AltK.l ?_); (conv => whnf); (with_reducible refine Need.mk ?_ ?_); (first | omega | (refine ⟨?_, ?_⟩ <;> simp <;> omega) | (simp; omega)); conv => whnf)
          | ((with_reducible refine Need.mk ?_ ?_); (first | omega | rfl | decide | (refine ⟨?_, ?_⟩ <;> simp <;> omega) | (simp; omega)); conv => whnf)
          | ((with_reducible refine Wr.quo ?_ ?_ ?_ ?_); omega; omega; omega; conv => whnf)
          | ((with_reducible refine Wr.inr ?_ ?_); (first | omega | (simp; omega)); conv => whnf)
          | ((with_reducible refine Wr.inu ?_ ?_); omega; conv => whnf)
          | ((with_reducible refine AltK.l ?_); (conv => whnf); (first | (refine CallK.mk _ (q1) ?_) | (refine CallK.mk _ (q2) ?_)); conv => whnf)
          | (exfalso; first | omega | contradiction))
        · exact Again.au (i + 1, c) ⟨by dsimp only at *; omega, minN_done hM0 hs (hd1 (by assumption))⟩ (by dsimp only at *; omega) (by refine ⟨?_, ?_, rfl⟩ <;> (repeat' (first | exact True.intro | exact rfl | refine ⟨?_, ?_⟩ | (intro h; cases h; done) | (intro h; exact h) | exact map_snoc | (refine own_congr ?_; simp; done) | (refine int_congr ?_; (first | omega | (simp; omega))) | (simp; done))))
        · exact Again.au (i + 1, c) ⟨by dsimp only at *; omega, minN_done hM0 hs (hd2 (by assumption))⟩ (by dsimp only at *; omega) (by refine ⟨?_, ?_, rfl⟩ <;> (repeat' (first | exact True.intro | exact rfl | refine ⟨?_, ?_⟩ | (intro h; cases h; done) | (intro h; exact h) | exact map_snoc | (refine own_congr ?_; simp; done) | (refine int_congr ?_; (first | omega | (simp; omega))) | (simp; done))))
        · exact Again.au (i + 1, (i : Int)) ⟨by dsimp only at *; omega, minN_take (fun a b c h1 h2 => by rw [cfNear_lt] at *; omega) g5 hs (hd3 (by assumption) (by assumption)) (hcf.2 (.inl (by assumption)))⟩ (by dsimp only at *; omega) (by refine ⟨?_, ?_, rfl⟩ <;> (repeat' (first | exact True.intro | exact rfl | refine ⟨?_, ?_⟩ | (intro h; cases h; done) | (intro h; exact h) | exact map_snoc | (refine own_congr ?_; simp; done) | (refine int_congr ?_; (first | omega | (simp; omega))) | (simp; done))))
        · exact Again.au (i + 1, (i : Int)) ⟨by dsimp only at *; omega, minN_take (fun a b c h1 h2 => by rw [cfNear_lt] at *; omega) g5 hs (hd3 (by assumption) (by assumption)) (hcf.2 (.inr ⟨by assumption, by assumption⟩))⟩ (by dsimp only at *; omega) (by refine ⟨?_, ?_, rfl⟩ <;> (repeat' (first | exact True.intro | exact rfl | refine ⟨?_, ?_⟩ | (intro h; cases h; done) | (intro h; exact h) | exact map_snoc | (refine own_congr ?_; simp; done) | (refine int_congr ?_; (first | omega | (simp; omega))) | (simp; done))))
        · exact Again.au (i + 1, c) ⟨by dsimp only at *; omega, minN_keep (near_tot x y hu) g1 g2 g3 g4 g5 hs (fun h => by rw [hcf] at h; omega)⟩ (by dsimp only at *; omega) (by refine ⟨?_, ?_, rfl⟩ <;> (repeat' (first | exact True.intro | exact rfl | refine ⟨?_, ?_⟩ | (intro h; cases h; done) | (intro h; exact h) | exact map_snoc | (refine own_congr ?_; simp; done) | (refine int_congr ?_; (first | omega | (simp; omega))) | (simp; done))))
        · exact Again.au (i + 1, c) ⟨by dsimp only at *; omega, minN_keep (near_tot x y hu) g1 g2 g3 g4 g5 hs (fun h => by rw [hcf] at h; omega)⟩ (by dsimp only at *; omega) (by refine ⟨?_, ?_, rfl⟩ <;> (repeat' (first | exact True.intro | exact rfl | refine ⟨?_, ?_⟩ | (intro h; cases h; done) | (intro h; exact h) | exact map_snoc | (refine own_congr ?_; simp; done) | (refine int_congr ?_; (first | omega | (simp; omega))) | (simp; done))))
    · have ei : i = l.length := by dsimp only at *; omega
      rw [ei] at hM
      rcases hM with ⟨rfl, hM⟩ | ⟨z, g1, g2, g3, g4, g5⟩
      · rw [List.take_length] at hM
        have he := endN hu hM
        have e1 : nearI x y l but n.toNat = nearI x y l but k := by rw [nearI, nearI, List.take_of_length_le (by omega), List.take_of_length_le (by omega)]
        rw [e1]; rfl
      · exfalso; dsimp only at *; omega
    · have ei : i = l.length := by dsimp only at *; omega
      rw [ei] at hM
      rcases hM with ⟨rfl, hM⟩ | ⟨z, g1, g2, g3, g4, g5⟩
      · exfalso; dsimp only at *; omega
      · rw [List.take_length] at g5
        have hz := List.mem_of_getElem? g3
        have hnz := pickN hu hz g4 g5
        have hcl : c.toNat < l.length := (List.getElem?_eq_some_iff.1 g3).1
        have hkl := (List.getElem?_eq_some_iff.1 hnz).1
        have hst := nearI_snoc hnz
        rw [find_at hu g3, Int.toNat_of_nonneg g1] at hst
        have hmp5 : ((l.map fun s => D.bool (dnF ((nearS x y (butP l but) l).take k) s)).set c.toNat (.bool true)) = l.map fun s => D.bool (dnF ((nearS x y (butP l but) l).take (k + 1)) s) := by
          refine set_map g3 (by rw [dnF_snoc hnz]; simp) (noTwo_nodup hu) fun y hy hyz => ?_
          have : (z.n == y.n) = false := by
            simp only [beq_eq_false_iff_ne]
            exact fun e => hyz (noTwo_eq hu y hy z hz e.symm)
          rw [dnF_snoc hnz, this, Bool.or_false]
        have hl1 := hnI k
        conv => whnf
        repeat' (first
          | ((refine PickE.map c.toNat g3 (by omega) ?_); conv => whnf)
          | ((with_reducible refine Split.of_true ?_); conv => whnf)
          | ((with_reducible refine Split.of_false ?_); conv => whnf)
          | ((with_reducible refine Split.neg ?_))
          | ((with_reducible refine Split.is_true ?_ ?_); decide; conv => whnf)
          | ((with_reducible refine Split.is_false ?_ ?_); decide; conv => whnf)
          | ((with_reducible refine Split.nez (fun _ => ?_) (fun _ => ?_)) <;> conv => whnf)
          | ((with_reducible refine Split.eqz (fun _ => ?_) (fun _ => ?_)) <;> conv => whnf)
          | ((with_reducible refine Split.and ?_))
          | ((with_reducible refine Split.or ?_))
          | ((with_reducible refine Split.streq (fun _ => ?_) (fun _ => ?_)) <;> conv => whnf)
          | ((with_reducible refine Split.dec (fun _ => ?_) (fun _ => ?_)) <;> conv => whnf)
          | ((with_reducible refine Split.mk (fun _ => ?_) (fun _ => ?_)) <;> conv => whnf)
          | ((with_reducible refine NilK.mk (fun _ => ?_) ?_) <;> conv => whnf)
          | ((with_reducible refine AltK.l ?_); (conv => whnf); (with_reducible refine Need.mk ?_ ?_); (first | omega | (refine ⟨?_, ?_⟩ <;> simp <;> omega) | (simp; omega)); conv => whnf)
          | ((with_reducible refine Need.mk ?_ ?_); (first | omega | rfl | decide | (refine ⟨?_, ?_⟩ <;> simp <;> omega) | (simp; omega)); conv => whnf)
          | ((with_reducible refine Wr.quo ?_ ?_ ?_ ?_); omega; omega; omega; conv => whnf)
          | ((with_reducible refine Wr.inr ?_ ?_); (first | omega | (simp; omega)); conv => whnf)
          | ((with_reducible refine Wr.inu ?_ ?_); omega; conv => whnf)
          | (exfalso; first | omega | contradiction))
        have hmp6 : (nearI x y l but k).map iD ++ D.int .i64 c :: List.replicate 0 (D.int .i64 0) = (nearI x y l but (k + 1)).map iD := by rw [hst]; simp [iD]
        exact Again.au (k + 1) ⟨by omega, by omega⟩ (by omega) (by refine ⟨?_, ?_, rfl⟩ <;> (repeat' (first | exact True.intro | exact rfl | refine ⟨?_, ?_⟩ | (intro h; cases h; done) | (intro h; exact h) | exact map_snoc | (refine own_congr ?_; simp; done) | (refine int_congr ?_; (first | omega | (simp; omega))) | (simp; done) | exact hmp5 | exact hmp6 | ((first | refine own_congr ?_ | refine int_congr ?_ | skip); simp [hst]; done) | ((first | refine own_congr ?_ | refine int_congr ?_); simp [hst]; omega) | (show @Eq (List Go.Vm.D) _ []; simp [hst]; done) | (simp [D.cells, hst]; done))))
  · have e1 : n.toNat = k := by omega
    rw [e1]; rfl
end Go.Proofs.Tryz
end

section
namespace Go.Proofs.Tryz
open Go Go.Vm
set_option maxRecDepth 20000
set_option maxHeartbeats 2000000
/-! IndexFunc and DeleteFunc by a function that has captured a map. -/
end Go.Proofs.Tryz
end

section
namespace Go.Proofs.Tryz
open Go Go.Vm Go.Sort
set_option maxRecDepth 20000
set_option maxHeartbeats 4000000
/-! Sheets by numbers; kept soundings. -/
end Go.Proofs.Tryz
end

section
/- Openings of typed arguments: raw soundings, soundings, lists of numbers, thinnings, grids. -/
namespace Go.Proofs.Tryz
open Go Go.Vm
def cSg : List Cs := [.int .i64, .int .i64, .int .i64, .int .i64, .int .i64]
theorem sg_of {d : D} (h : TyV (true, cSg) d) : ∃ r, d = sgD r := by
  obtain ⟨ds, rfl, hl, hc⟩ := agg_of h
  match ds, hl with
  | [a, b, c, e, f], _ =>
    obtain ⟨x0, rfl, -⟩ := int_of (hc 0 _ a rfl rfl)
    obtain ⟨x1, rfl, -⟩ := int_of (hc 1 _ b rfl rfl)
    obtain ⟨x2, rfl, -⟩ := int_of (hc 2 _ c rfl rfl)
    obtain ⟨x3, rfl, -⟩ := int_of (hc 3 _ e rfl rfl)
    obtain ⟨x4, rfl, -⟩ := int_of (hc 4 _ f rfl rfl)
    exact ⟨⟨x0, x1, x2, x3, x4⟩, rfl⟩
theorem sgs_of {d : D} (h : Ty (.sl true cSg) d) : ∃ l : List Sg, d = .sl 5 (l.map sgD) := by
  obtain ⟨es, rfl, he, -⟩ := sl_of h
  obtain ⟨l, rfl⟩ := map_of (fun d hd => sg_of hd) he
  exact ⟨l, rfl⟩
end Go.Proofs.Tryz
end

section
namespace Go.Proofs.Tryz
open Go Go.Vm Go.Sort
set_option maxRecDepth 20000
set_option maxHeartbeats 4000000
/-! The reference's Keep; SoundingThins. -/
def longB (n : Nat) : Bool := (decide (25 < n) && decide (n ≤ 500)) || decide (600 < n)
theorem ev_long (l : List Sg) : Ev Tryz.prog 29 [.sl 5 (l.map sgD)] (.bool (longB l.length)) := by
  have hlen : (l.map sgD).length = l.length := List.length_map _
  refine ev_of_awp tysOk mixed (fn := Tryz.f29) Tryz.func29 rfl rfl rfl ?_
  conv => whnf
  repeat' (first
    | ((with_reducible refine Split.of_true ?_); conv => whnf)
    | ((with_reducible refine Split.of_false ?_); conv => whnf)
    | ((with_reducible refine Split.neg ?_))
    | ((with_reducible refine Split.is_true ?_ ?_); decide; conv => whnf)
    | ((with_reducible refine Split.is_false ?_ ?_); decide; conv => whnf)
    | ((with_reducible refine Split.nez (fun _ => ?_) (fun _ => ?_)) <;> conv => whnf)
    | ((with_reducible refine Split.eqz (fun _ => ?_) (fun _ => ?_)) <;> conv => whnf)
    | ((with_reducible refine Split.and ?_))
    | ((with_reducible refine Split.or ?_))
    | ((with_reducible refine Split.streq (fun _ => ?_) (fun _ => ?_)) <;> conv => whnf)
    | ((with_reducible refine Split.dec (fun _ => ?_) (fun _ => ?_)) <;> conv => whnf)
    | ((with_reducible refine Split.mk (fun _ => ?_) (fun _ => ?_)) <;> conv => whnf)
    | ((with_reducible refine NilK.mk (fun _ => ?_) ?_) <;> conv => whnf)
    | ((with_reducible refine AltK.l ?_); (conv => whnf); (with_reducible refine Need.mk ?_ ?_); (first | omega | (refine ⟨?_, ?_⟩ <;> simp <;> omega) | (simp; omega)); conv => whnf)
    | ((with_reducible refine Need.mk ?_ ?_); (first | omega | rfl | decide | (refine ⟨?_, ?_⟩ <;> simp <;> omega) | (simp; omega)); conv => whnf)
    | ((with_reducible refine Wr.quo ?_ ?_ ?_ ?_); omega; omega; omega; conv => whnf)
    | ((with_reducible refine Wr.inr ?_ ?_); (first | omega | (simp; omega)); conv => whnf)
    | ((with_reducible refine Wr.inu ?_ ?_); omega; conv => whnf)
    | (exfalso; first | omega | contradiction))
  all_goals
    have e : longB l.length = true ∨ longB l.length = false := by cases longB l.length <;> simp
    rcases e with e | e <;> rw [e] <;> simp [retOf, longB] at e ⊢ <;> omega
end Go.Proofs.Tryz
end

section
namespace Go.Proofs.Tryz
open Go Go.Vm Go.Sort
set_option maxRecDepth 20000
set_option maxHeartbeats 4000000
/-! Near. -/
theorem sg_places {l : List Sg} (h : ∀ x ∈ l, sgB x = true) : ∀ g ∈ l, -1000000 ≤ g.x ∧ g.x ≤ 1000000 ∧ -1000000 ≤ g.y ∧ g.y ≤ 1000000 := fun g hg => sg_place (h g hg)
theorem near_find {l : List Sg} (hu : NoTwo l) {s : Sg} (h : s ∈ l) : ∃ j : Nat, findS l s.n = (j : Int) ∧ l[j]? = some s := by
  obtain ⟨i, hi, rfl⟩ := List.getElem_of_mem h
  exact ⟨i, find_at hu (List.getElem?_eq_getElem hi), List.getElem?_eq_getElem hi⟩
def isE (x : List Int × Int) : D := .tup [.sl 1 (x.1.map iD), .int .i64 x.2]
theorem out_not {n lo hi : Int} : outsideB n lo hi = false ↔ lo ≤ n ∧ n ≤ hi := by
  simp only [outsideB, Bool.or_eq_false_iff, decide_eq_false_iff_not]; omega
end Go.Proofs.Tryz
end

section
namespace Go.Proofs.Tryz
open Go Go.Vm Go.Sort
set_option maxRecDepth 20000
set_option maxHeartbeats 2000000
theorem ev_ModB (a b : Int) (hb : 0 < b ∧ b ≤ 1000000000000000000) : Ev Tryz.prog 21 [iD a, iD b] (iD (a % b)) := by
  have h1 := Int.tmod_eq_emod (a := a) (b := b)
  have h2 := Int.emod_nonneg a (Int.ne_of_gt hb.1)
  have h3 := Int.emod_lt_of_pos a hb.1
  have hn : (b.natAbs : Int) = b := by omega
  have hbd : -1000000000000000000 ≤ a.tmod b ∧ a.tmod b ≤ 1000000000000000000 := by rw [h1]; split <;> omega
  have h : (if a.tmod b < 0 then a.tmod b + b else a.tmod b) = a % b := by
    rw [h1]
    split <;> split <;> omega
  clear h1
  refine ev_of_awp tysOk mixed (fn := Tryz.f21) Tryz.func21 rfl rfl rfl ?_
  conv => whnf
  repeat' (first
    | ((with_reducible refine Split.of_true ?_); conv => whnf)
    | ((with_reducible refine Split.of_false ?_); conv => whnf)
    | ((with_reducible refine Split.neg ?_))
    | ((with_reducible refine Split.is_true ?_ ?_); decide; conv => whnf)
    | ((with_reducible refine Split.is_false ?_ ?_); decide; conv => whnf)
    | ((with_reducible refine Split.nez (fun _ => ?_) (fun _ => ?_)) <;> conv => whnf)
    | ((with_reducible refine Split.eqz (fun _ => ?_) (fun _ => ?_)) <;> conv => whnf)
    | ((with_reducible refine Split.and ?_))
    | ((with_reducible refine Split.or ?_))
    | ((with_reducible refine Split.streq (fun _ => ?_) (fun _ => ?_)) <;> conv => whnf)
    | ((with_reducible refine Split.dec (fun _ => ?_) (fun _ => ?_)) <;> conv => whnf)
    | ((with_reducible refine Split.mk (fun _ => ?_) (fun _ => ?_)) <;> conv => whnf)
    | ((with_reducible refine NilK.mk (fun _ => ?_) ?_) <;> conv => whnf)
    | ((with_reducible refine AltK.l ?_); (conv => whnf); (with_reducible refine Need.mk ?_ ?_); (first | omega | (refine ⟨?_, ?_⟩ <;> simp <;> omega) | (simp; omega)); conv => whnf)
    | ((with_reducible refine Need.mk ?_ ?_); (first | omega | rfl | decide | (refine ⟨?_, ?_⟩ <;> simp <;> omega) | (simp; omega)); conv => whnf)
    | ((with_reducible refine Wr.quo ?_ ?_ ?_ ?_); omega; omega; omega; conv => whnf)
    | ((with_reducible refine Wr.inr ?_ ?_); (first | omega | (simp; omega)); conv => whnf)
    | ((with_reducible refine Wr.inu ?_ ?_); omega; conv => whnf)
    | (exfalso; first | omega | contradiction))
  · rw [if_pos (by assumption)] at h; rw [← h]; rfl
  · rw [if_neg (by assumption)] at h; rw [← h]; rfl
end Go.Proofs.Tryz
end
