/- Texts SdP SdK SdZ, joined. -/
import Derived.Test.YtkkngciaphfifaaGreatMgS
import Derived.Test.YtkkngciaphfifaaGreatMgI
import Derived.Test.YtkkngciaphfifaaGreatMgU
import Derived.Test.YtkkngciaphfifaaGreatMgP
section
namespace Go.Proofs.Tryz
open Go Go.Vm Go.Sort
/-! Plain laws of sorted lists. -/
theorem sorted_unique {α : Type} {lt : α → α → Prop} (has : ∀ a b, lt a b → ¬ lt b a) : ∀ {l m : List α}, l.Perm m → l.Pairwise lt → m.Pairwise lt → l = m
  | [], m, hp, _, _ => by rw [List.nil_perm.1 hp]
  | a :: l, [], hp, _, _ => by have := hp.length_eq; simp at this
  | a :: l, b :: m, hp, hl, hm => by
    have hab : a = b := by
      have h1 : a ∈ b :: m := hp.subset List.mem_cons_self
      have h2 : b ∈ a :: l := hp.symm.subset List.mem_cons_self
      rcases List.mem_cons.1 h1 with h1 | h1
      · exact h1
      · rcases List.mem_cons.1 h2 with h2 | h2
        · exact h2.symm
        · exact absurd ((List.pairwise_cons.1 hl).1 b h2) (has b a ((List.pairwise_cons.1 hm).1 a h1))
    subst hab
    rw [sorted_unique has (List.Perm.cons_inv hp) (List.pairwise_cons.1 hl).2 (List.pairwise_cons.1 hm).2]
theorem sortL_sorted {α : Type} {cf : α → α → Int} (hO : SWO fun x y => decide (cf x y < 0)) (l : List α) : (sortL cf l).Pairwise fun a b => ¬ cf b a < 0 := by
  have h := List.pairwise_mergeSort (le := fun x y => !decide (cf y x < 0)) (fun a b c h1 h2 => by
    simp only [Bool.not_eq_true', decide_eq_false_iff_not] at h1 h2 ⊢
    have := hO.ntrans c b a (by simpa using h2) (by simpa using h1)
    simpa using this) (fun a b => by
    simp only [Bool.or_eq_true, Bool.not_eq_true', decide_eq_false_iff_not]
    by_cases h : cf b a < 0
    · right
      intro h'
      have := hO.trans a b a (by simpa using h') (by simpa using h)
      rw [hO.irrefl] at this; cases this
    · exact .inl h) l
  refine h.imp fun {a b} h => ?_
  simpa using h
theorem sortL_strict {α : Type} {cf : α → α → Int} (hO : SWO fun x y => decide (cf x y < 0)) {l : List α} (hn : l.Nodup) (hT : ∀ x ∈ l, ∀ y ∈ l, ¬ cf x y < 0 → ¬ cf y x < 0 → x = y) : (sortL cf l).Pairwise fun a b => cf a b < 0 := by
  have hnd : (sortL cf l).Nodup := (sortL_perm cf l).nodup_iff.2 hn
  have h := (sortL_sorted hO l).and hnd
  refine List.Pairwise.imp_of_mem ?_ h
  intro a b ha hb ⟨h1, h2⟩
  have ha := (sortL_perm cf l).subset ha
  have hb := (sortL_perm cf l).subset hb
  by_cases h3 : cf a b < 0
  · exact h3
  · exact absurd (hT a ha b hb h3 h1) h2
theorem sortL_eq {α : Type} {cf : α → α → Int} (hO : SWO fun x y => decide (cf x y < 0)) {l m : List α} (hp : m.Perm l) (hs : m.Pairwise fun a b => cf a b < 0) : m = sortL cf l := by
  have has : ∀ a b, cf a b < 0 → ¬ cf b a < 0 := fun a b h1 h2 => by
    have := hO.trans a b a (by simpa using h1) (by simpa using h2)
    rw [hO.irrefl] at this; cases this
  have hn : m.Nodup := hs.imp fun {a b} h (e : a = b) => by subst e; exact has a a h h
  have hln : l.Nodup := hp.nodup_iff.1 hn
  refine sorted_unique has (hp.trans (sortL_perm cf l).symm) hs (sortL_strict hO hln fun x hx y hy h1 h2 => ?_)
  have hx := hp.symm.subset hx
  have hy := hp.symm.subset hy
  obtain ⟨i, hi, rfl⟩ := List.getElem_of_mem hx
  obtain ⟨j, hj, rfl⟩ := List.getElem_of_mem hy
  rcases Nat.lt_trichotomy i j with h3 | h3 | h3
  · exact absurd (List.pairwise_iff_getElem.1 hs i j hi hj h3) h1
  · subst h3; rfl
  · exact absurd (List.pairwise_iff_getElem.1 hs j i hj hi h3) h2
/-- What is least among what is not taken yet comes next. -/
theorem pick_next {α : Type} {lt : α → α → Prop} (has : ∀ a b, lt a b → ¬ lt b a) {l o : List α} (hp : o.Perm l) (hs : o.Pairwise lt) {n : Nat} {x : α} (hx : x ∈ l) (hxn : x ∉ o.take n) (hm : ∀ y ∈ l, y ∉ o.take n → y = x ∨ lt x y) : o[n]? = some x := by
  have hxo : x ∈ o := hp.symm.subset hx
  have hnd : o.Nodup := hs.imp fun {a b} h (e : a = b) => by subst e; exact has a a h h
  rw [← List.take_append_drop n o, List.mem_append] at hxo
  have hxd : x ∈ o.drop n := hxo.resolve_left hxn
  cases hd : o[n]? with
  | none =>
    rw [List.drop_eq_nil_of_le (List.getElem?_eq_none_iff.1 hd)] at hxd
    cases hxd
  | some z =>
    have hz : z ∈ o := List.mem_of_getElem? hd
    have hzn : z ∉ o.take n := by
      intro h
      obtain ⟨j, hj, e⟩ := List.mem_take_iff_getElem.1 h
      obtain ⟨h1, h2⟩ := List.getElem?_eq_some_iff.1 hd
      have := List.pairwise_iff_getElem.1 hs j n (by omega) h1 (by omega)
      rw [e, h2] at this
      exact has _ _ this this
    rcases hm z (hp.subset hz) hzn with rfl | h
    · rfl
    · rw [drop_of hd] at hxd
      rcases List.mem_cons.1 hxd with rfl | h'
      · rfl
      · have h2 : (z :: o.drop (n + 1)).Pairwise lt := by rw [← drop_of hd]; exact hs.drop
        exact absurd ((List.pairwise_cons.1 h2).1 x h') (has x z h)
theorem sortZ_perm (l : List Int) : (sortZ l).Perm l := List.mergeSort_perm _ _
theorem sortZ_sorted (l : List Int) : (sortZ l).Pairwise fun a b => a ≤ b := by
  have h := List.pairwise_mergeSort (le := fun x y : Int => decide (x ≤ y)) (fun a b c h1 h2 => by simp at h1 h2 ⊢; omega) (fun a b => by simp; omega) l
  exact h.imp fun {a b} h => by simpa using h
theorem sortedZ_unique : ∀ {l m : List Int}, l.Perm m → l.Pairwise (fun a b => a ≤ b) → m.Pairwise (fun a b => a ≤ b) → l = m
  | [], m, hp, _, _ => by rw [List.nil_perm.1 hp]
  | a :: l, [], hp, _, _ => by have := hp.length_eq; simp at this
  | a :: l, b :: m, hp, hl, hm => by
    have hab : a = b := by
      have h1 : a ∈ b :: m := hp.subset List.mem_cons_self
      have h2 : b ∈ a :: l := hp.symm.subset List.mem_cons_self
      rcases List.mem_cons.1 h1 with h1 | h1
      · exact h1
      · rcases List.mem_cons.1 h2 with h2 | h2
        · exact h2.symm
        · have := (List.pairwise_cons.1 hl).1 b h2
          have := (List.pairwise_cons.1 hm).1 a h1
          omega
    subst hab
    rw [sortedZ_unique (List.Perm.cons_inv hp) (List.pairwise_cons.1 hl).2 (List.pairwise_cons.1 hm).2]
theorem sortZ_eq {l m : List Int} (hp : m.Perm l) (hs : m.Pairwise fun a b => a ≤ b) : m = sortZ l := sortedZ_unique (hp.trans (sortZ_perm l).symm) hs (sortZ_sorted l)
end Go.Proofs.Tryz
end

section
namespace Go.Proofs.Tryz
open Go Go.Vm Go.Sort
set_option maxRecDepth 20000
set_option maxHeartbeats 2000000
def exS : List Sg := [⟨1, 0, 0, -510, -500⟩, ⟨2, 30, 40, -480, -470⟩, ⟨3, 60, 80, -460, -450⟩, ⟨4, 900, 0, -900, -890⟩]
theorem ev_example : Ev Tryz.prog 65 [] (.sl 5 (exS.map sgD)) := by
  refine ev_of_awp tysOk mixed (fn := Tryz.f65) Tryz.func65 rfl rfl rfl ?_
  conv => whnf
  repeat' (first
    | ((with_reducible refine Split.of_true ?_); conv => whnf)
    | ((with_reducible refine Split.of_false ?_); conv => whnf)
    | ((with_reducible refine Split.neg ?_))
    | ((with_reducible refine Split.is_true ?_ ?_); decide; conv => whnf)
    | ((with_reducible refine Split.is_false ?_ ?_); decide; conv => whnf)
    | ((with_reducible refine Split.nez (fun _ => ?_) (fun _ => ?_)) <;> conv => whnf)
    | ((with_reducible refine Split.eqz (fun _ => ?_) (fun _ => ?_)) <;> conv => whnf)
    | ((with_reducible refine Split.and ?_))
    | ((with_reducible refine Split.or ?_))
    | ((with_reducible refine Split.streq (fun _ => ?_) (fun _ => ?_)) <;> conv => whnf)
    | ((with_reducible refine Split.dec (fun _ => ?_) (fun _ => ?_)) <;> conv => whnf)
    | ((with_reducible refine Split.mk (fun _ => ?_) (fun _ => ?_)) <;> conv => whnf)
    | ((with_reducible refine NilK.mk (fun _ => ?_) ?_) <;> conv => whnf)
    | ((with_reducible refine AltK.l ?_); (conv => whnf); (with_reducible refine Need.mk ?_ ?_); (first | omega | (refine ⟨?_, ?_⟩ <;> simp <;> omega) | (simp; omega)); conv => whnf)
    | ((with_reducible refine Need.mk ?_ ?_); (first | omega | rfl | decide | (refine ⟨?_, ?_⟩ <;> simp <;> omega) | (simp; omega)); conv => whnf)
    | ((with_reducible refine Wr.quo ?_ ?_ ?_ ?_); omega; omega; omega; conv => whnf)
    | ((with_reducible refine Wr.inr ?_ ?_); (first | omega | (simp; omega)); conv => whnf)
    | ((with_reducible refine Wr.inu ?_ ?_); omega; conv => whnf)
    | (exfalso; first | omega | contradiction))
  rfl
theorem exS_sorted : sortL cfThin exS = [⟨3, 60, 80, -460, -450⟩, ⟨2, 30, 40, -480, -470⟩, ⟨1, 0, 0, -510, -500⟩, ⟨4, 900, 0, -900, -890⟩] :=
  (sortL_eq swoThin (by decide) (by decide)).symm
theorem exS_thin : thinRes exS 50 = ([1, 3, 4], [(2, 3)], 0) := by
  have e1 : (thinO 50 (sortL cfThin exS)) = ([⟨3, 60, 80, -460, -450⟩, ⟨1, 0, 0, -510, -500⟩, ⟨4, 900, 0, -900, -890⟩], [(2, 3)]) := by rw [exS_sorted]; decide
  rw [thinRes, if_neg (by decide), if_neg (by decide), e1]
  have e2 : [1, 3, 4] = sortZ ([⟨3, 60, 80, -460, -450⟩, ⟨1, 0, 0, -510, -500⟩, ⟨4, 900, 0, -900, -890⟩].map Sg.n) := sortZ_eq (by decide) (by decide)
  have e3 : [((2 : Int), (3 : Int))] = sortL (fun a b => cmpI a.1 b.1) [(2, 3)] := sortL_eq ⟨fun x => by simp only [cmpI_neg, decide_eq_false_iff_not]; omega, fun x y z => by simp only [cmpI_neg, decide_eq_true_eq]; omega, fun x y z => by simp only [cmpI_neg, decide_eq_false_iff_not]; omega⟩ (.refl _) (by decide)
  rw [← e2, ← e3]
def pierS : Ga := ⟨⟨#[112, 105, 101, 114]⟩, 0, 5, [⟨0, 100⟩, ⟨20, 100⟩]⟩
def rawS : Rw := ⟨7, 10, 0, 0, 500, 40, 10⟩
theorem pier_red : rdE [pierS] rawS = (⟨7, 0, 0, -455, -425⟩, 0) := by decide
theorem ev_awake3 : Ev Tryz.prog 18 [] (.bool true) := by
  have h := ev_Reduce [pierS] rawS
  have h2 := ev_Thin exS 50
  rw [pier_red] at h
  rw [exS_thin] at h2
  refine ev_of_awp tysOk mixed (fn := Tryz.f18) Tryz.func18 rfl rfl rfl ?_
  conv => whnf
  repeat' (first
    | ((refine PickE.mk _ rfl ?_); conv => whnf)
    | ((with_reducible refine Split.of_true ?_); conv => whnf)
    | ((with_reducible refine Split.of_false ?_); conv => whnf)
    | ((with_reducible refine Split.neg ?_))
    | ((with_reducible refine Split.is_true ?_ ?_); decide; conv => whnf)
    | ((with_reducible refine Split.is_false ?_ ?_); decide; conv => whnf)
    | ((with_reducible refine Split.nez (fun _ => ?_) (fun _ => ?_)) <;> conv => whnf)
    | ((with_reducible refine Split.eqz (fun _ => ?_) (fun _ => ?_)) <;> conv => whnf)
    | ((with_reducible refine Split.and ?_))
    | ((with_reducible refine Split.or ?_))
    | ((with_reducible refine Split.streq (fun _ => ?_) (fun _ => ?_)) <;> conv => whnf)
    | ((with_reducible refine Split.dec (fun _ => ?_) (fun _ => ?_)) <;> conv => whnf)
    | ((with_reducible refine Split.mk (fun _ => ?_) (fun _ => ?_)) <;> conv => whnf)
    | ((with_reducible refine NilK.mk (fun _ => ?_) ?_) <;> conv => whnf)
    | ((with_reducible refine AltK.l ?_); (conv => whnf); (with_reducible refine Need.mk ?_ ?_); (first | omega | (refine ⟨?_, ?_⟩ <;> simp <;> omega) | (simp; omega)); conv => whnf)
    | ((with_reducible refine Need.mk ?_ ?_); (first | omega | rfl | decide | (refine ⟨?_, ?_⟩ <;> simp <;> omega) | (simp; omega)); conv => whnf)
    | ((with_reducible refine Wr.quo ?_ ?_ ?_ ?_); omega; omega; omega; conv => whnf)
    | ((with_reducible refine Wr.inr ?_ ?_); (first | omega | (simp; omega)); conv => whnf)
    | ((with_reducible refine Wr.inu ?_ ?_); omega; conv => whnf)
    | ((with_reducible refine AltK.l ?_); (conv => whnf); (first | (refine CallK.mk _ (h) ?_) | (refine CallK.mk _ (ev_example) ?_) | (refine CallK.mk _ (h2) ?_) | (refine CallK.mk _ (ev_Ints [1, 3, 4] [1, 3, 4] (by simp)) ?_)); conv => whnf)
    | (exfalso; first | omega | contradiction))
  rfl
end Go.Proofs.Tryz
end

section
/- Openings of typed arguments: raw soundings, soundings, lists of numbers, thinnings, grids. -/
namespace Go.Proofs.Tryz
open Go Go.Vm
def cRaw : List Cs := [.int .i64, .int .i64, .int .i64, .int .i64, .int .i64, .int .i64, .int .i64]
def cSg : List Cs := [.int .i64, .int .i64, .int .i64, .int .i64, .int .i64]
theorem raw_of {d : D} (h : TyV (true, cRaw) d) : ∃ r, d = rD r := by
  obtain ⟨ds, rfl, hl, hc⟩ := agg_of h
  match ds, hl with
  | [a, b, c, e, f, g, i], _ =>
    obtain ⟨x0, rfl, -⟩ := int_of (hc 0 _ a rfl rfl)
    obtain ⟨x1, rfl, -⟩ := int_of (hc 1 _ b rfl rfl)
    obtain ⟨x2, rfl, -⟩ := int_of (hc 2 _ c rfl rfl)
    obtain ⟨x3, rfl, -⟩ := int_of (hc 3 _ e rfl rfl)
    obtain ⟨x4, rfl, -⟩ := int_of (hc 4 _ f rfl rfl)
    obtain ⟨x5, rfl, -⟩ := int_of (hc 5 _ g rfl rfl)
    obtain ⟨x6, rfl, -⟩ := int_of (hc 6 _ i rfl rfl)
    exact ⟨⟨x0, x1, x2, x3, x4, x5, x6⟩, rfl⟩
theorem raws_of {d : D} (h : Ty (.sl true cRaw) d) : ∃ l : List Rw, d = .sl 7 (l.map rD) := by
  obtain ⟨es, rfl, he, -⟩ := sl_of h
  obtain ⟨l, rfl⟩ := map_of (fun d hd => raw_of hd) he
  exact ⟨l, rfl⟩
theorem sg_of {d : D} (h : TyV (true, cSg) d) : ∃ r, d = sgD r := by
  obtain ⟨ds, rfl, hl, hc⟩ := agg_of h
  match ds, hl with
  | [a, b, c, e, f], _ =>
    obtain ⟨x0, rfl, -⟩ := int_of (hc 0 _ a rfl rfl)
    obtain ⟨x1, rfl, -⟩ := int_of (hc 1 _ b rfl rfl)
    obtain ⟨x2, rfl, -⟩ := int_of (hc 2 _ c rfl rfl)
    obtain ⟨x3, rfl, -⟩ := int_of (hc 3 _ e rfl rfl)
    obtain ⟨x4, rfl, -⟩ := int_of (hc 4 _ f rfl rfl)
    exact ⟨⟨x0, x1, x2, x3, x4⟩, rfl⟩
theorem sgs_of {d : D} (h : Ty (.sl true cSg) d) : ∃ l : List Sg, d = .sl 5 (l.map sgD) := by
  obtain ⟨es, rfl, he, -⟩ := sl_of h
  obtain ⟨l, rfl⟩ := map_of (fun d hd => sg_of hd) he
  exact ⟨l, rfl⟩
theorem ints_of {d : D} (h : Ty (.sl false [.int .i64]) d) : ∃ l : List Int, d = .sl 1 (l.map iD) := by
  obtain ⟨es, rfl, he, -⟩ := sl_of h
  obtain ⟨l, rfl⟩ := map_of (f := iD) (fun d hd => by
    obtain ⟨n, rfl, -⟩ := int_of (one_of hd)
    exact ⟨n, rfl⟩) he
  exact ⟨l, rfl⟩
theorem pair_of {d : D} (h : TyV (true, cMark) d) : ∃ p : Int × Int, d = gdD p := by
  obtain ⟨m, rfl⟩ := mark_of h
  exact ⟨(m.m, m.l), rfl⟩
theorem pairs_of {d : D} (h : Ty (.sl true cMark) d) : ∃ l : List (Int × Int), d = .sl 2 (l.map gdD) := by
  obtain ⟨es, rfl, he, -⟩ := sl_of h
  obtain ⟨l, rfl⟩ := map_of (fun d hd => pair_of hd) he
  exact ⟨l, rfl⟩
def cThin : List Cs := [.sl false [.int .i64], .sl true cMark]
theorem thinned_of {d : D} (h : TyV (true, cThin) d) : ∃ (k : List Int) (g : List (Int × Int)), d = thD k g := by
  obtain ⟨ds, rfl, hl, hc⟩ := agg_of h
  match ds, hl with
  | [a, b], _ =>
    obtain ⟨k, rfl⟩ := ints_of (hc 0 _ a rfl rfl)
    obtain ⟨g, rfl⟩ := pairs_of (hc 1 _ b rfl rfl)
    exact ⟨k, g, rfl⟩
end Go.Proofs.Tryz
end
