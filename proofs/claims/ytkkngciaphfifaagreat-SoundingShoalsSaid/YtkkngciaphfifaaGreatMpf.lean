/- Texts SdW SdWb, joined; what is not needed is left out. -/
import Derived.Test.YtkkngciaphfifaaGreatMpe
section
namespace Go.Proofs.Tryz
open Go Go.Vm Go.Sort
/-! Plain laws: what a thinning keeps; accepted thinnings. -/
theorem chkGo_of {α : Type} {v : α → Bool} {num : α → Int} : ∀ (r o : List α), (∀ x ∈ r, v x = true) → (o ++ r).Pairwise (fun a b => num a ≠ num b) → chkGo v num o r = 0
  | [], _, _, _ => rfl
  | x :: r, o, h1, h2 => by
    rw [chkGo, if_neg (by rw [h1 x (by simp)]; decide)]
    have h3 : ¬ (o.any fun y => num y == num x) = true := by
      rw [List.any_eq_true]
      rintro ⟨y, hy, e⟩
      have := (List.pairwise_append.1 h2).2.2 y hy x (by simp)
      exact this (by simpa using e)
    rw [if_neg h3]
    exact chkGo_of r (o ++ [x]) (fun y hy => h1 y (by simp [hy])) (by simpa using h2)
theorem chk_of {α : Type} {v : α → Bool} {num : α → Int} {l : List α} (h1 : l.length ≤ 500) (h2 : ∀ x ∈ l, v x = true) (h3 : l.Pairwise fun a b => num a ≠ num b) : chkErr v num l = 0 := by
  rw [chkErr, if_neg (by omega)]; exact chkGo_of l [] h2 h3
def farP (r : Int) (a b : Sg) : Prop := ¬ sqS a b.x b.y ≤ r * r
structure GOk (r : Int) (o kp : List Sg) (p : Int × Int) (s k : Sg) : Prop where
  so : s ∈ o
  ko : k ∈ kp
  e : p = (s.n, k.n)
  close : sqS k s.x s.y ≤ r * r
  hi : s.hi ≤ k.hi
  out : s ∉ kp
structure TFacts (r : Int) (o : List Sg) : Prop where
  sub : (thinO r o).1.Sublist o
  far : (thinO r o).1.Pairwise (farP r)
  cov : ∀ s ∈ o, s ∈ (thinO r o).1 ∨ ∃ k ∈ (thinO r o).1, (s.n, k.n) ∈ (thinO r o).2
  gs : ∀ p ∈ (thinO r o).2, ∃ s k, GOk r o (thinO r o).1 p s k
theorem thin_facts (r : Int) (o : List Sg) : NoTwo o → (o.Pairwise fun a b => b.hi ≤ a.hi) → TFacts r o := by
  refine list_snoc (P := fun o => NoTwo o → (o.Pairwise fun a b => b.hi ≤ a.hi) → TFacts r o) (fun _ _ => ⟨.slnil, .nil, (fun s h => (by cases h)), fun s h => (by cases h)⟩) (fun o s ih hu hs => ?_) o
  obtain ⟨u1, _, u2⟩ := List.pairwise_append.1 hu
  obtain ⟨s1, _, s2⟩ := List.pairwise_append.1 hs
  obtain ⟨h1, h2, h3, h4⟩ := ih u1 s1
  have hnot : s ∉ o := fun h => u2 s h s (by simp) rfl
  constructor
  all_goals
    rw [thinO_app]
    generalize thinO r o = q at *
    obtain ⟨kp, gs⟩ := q
    dsimp only at h1 h2 h3 h4
    rw [thinStep]
    cases hf : kp.find? fun k => decide (sqS k s.x s.y ≤ r * r)
    all_goals dsimp only
  · exact h1.append (.refl _)
  · exact h1.trans (List.sublist_append_left _ _)
  · refine List.pairwise_append.2 ⟨h2, by simp, fun a ha b hb => ?_⟩
    rw [List.mem_singleton.1 hb]
    have := List.find?_eq_none.1 hf a ha
    simpa [farP] using this
  · exact h2
  · intro t ht
    rcases List.mem_append.1 ht with ht | ht
    · rcases h3 t ht with h | ⟨k, hk, hkg⟩
      · exact .inl (List.mem_append_left _ h)
      · exact .inr ⟨k, List.mem_append_left _ hk, hkg⟩
    · rw [List.mem_singleton.1 ht]; exact .inl (by simp)
  · rename_i k
    intro t ht
    rcases List.mem_append.1 ht with ht | ht
    · rcases h3 t ht with h | ⟨k, hk, hkg⟩
      · exact .inl h
      · exact .inr ⟨k, hk, List.mem_append_left _ hkg⟩
    · rw [List.mem_singleton.1 ht]; exact .inr ⟨k, List.mem_of_find?_eq_some hf, by simp⟩
  · intro p hp
    obtain ⟨t, k, g1, g2, g3, g4, g5, g6⟩ := h4 p hp
    refine ⟨t, k, List.mem_append_left _ g1, List.mem_append_left _ g2, g3, g4, g5, fun h => ?_⟩
    rcases List.mem_append.1 h with h | h
    · exact g6 h
    · rw [List.mem_singleton.1 h] at g1; exact hnot g1
  · rename_i k
    intro p hp
    rcases List.mem_append.1 hp with hp | hp
    · obtain ⟨t, k, g1, g2, g3, g4, g5, g6⟩ := h4 p hp
      exact ⟨t, k, List.mem_append_left _ g1, g2, g3, g4, g5, g6⟩
    · have hk := List.mem_of_find?_eq_some hf
      have hc : sqS k s.x s.y ≤ r * r := by simpa using List.find?_some hf
      exact ⟨s, k, by simp, hk, List.mem_singleton.1 hp, hc, s2 k (h1.subset hk) s (by simp), fun h => hnot (h1.subset h)⟩
theorem thin_far {r : Int} : ∀ (o : List Sg), o.Pairwise (farP r) → thinO r o = (o, []) := by
  refine fun o => list_snoc (P := fun o => o.Pairwise (farP r) → thinO r o = (o, [])) (fun _ => rfl) (fun o s ih h => ?_) o
  obtain ⟨h1, _, h2⟩ := List.pairwise_append.1 h
  rw [thinO_app, ih h1, thinStep]
  have : o.find? (fun k => decide (sqS k s.x s.y ≤ r * r)) = none := by
    rw [List.find?_eq_none]; intro k hk
    have := h2 k hk s (by simp)
    simpa [farP] using this
  simp only [this]
theorem sqS_sym (s o : Sg) : sqS s o.x o.y = sqS o s.x s.y := by
  have h : ∀ a b : Int, (a - b) * (a - b) = (b - a) * (b - a) := fun a b => by
    rw [← Int.neg_mul_neg]; congr 1 <;> omega
  unfold sqS
  rw [h s.x, h s.y]
theorem rr_nn (a : Int) : 0 ≤ a * a := by
  rcases Int.le_total 0 a with h | h
  · exact Int.mul_nonneg h h
  · have := Int.mul_nonneg (show 0 ≤ -a by omega) (show 0 ≤ -a by omega)
    rw [Int.neg_mul_neg] at this; exact this
theorem far_symm {r : Int} {a b : Sg} (h : farP r a b) : farP r b a := by unfold farP at *; rw [sqS_sym b a]; exact h
theorem find_self {l : List Sg} (hu : NoTwo l) {s : Sg} (hs : s ∈ l) : (l.find? fun t => t.n == s.n) = some s := by
  cases h : l.find? fun t => t.n == s.n with
  | none =>
    have := List.find?_eq_none.1 h s hs
    simp at this
  | some t =>
    obtain ⟨h1, h2⟩ := find_mem h
    rw [noTwo_eq hu t h1 s hs h2]
theorem kRun_of {l : List Sg} {r : Int} (hu : NoTwo l) : ∀ (S o : List Sg), (∀ s ∈ S, s ∈ l) → (o ++ S).Pairwise (fun a b => a.n < b.n) → (o ++ S).Pairwise (farP r) → kRun l r o (S.map Sg.n) = some (o ++ S)
  | [], o, _, _, _ => by simp [kRun]
  | s :: S, o, h1, h2, h3 => by
    rw [List.map_cons, kRun, find_self hu (h1 s (by simp))]
    simp only
    have n1 : notUp o s.n = false := by
      rcases nil_or_snoc o with rfl | ⟨q, z, rfl⟩
      · rfl
      · have := (List.pairwise_append.1 h2).2.2 z (by simp) s (by simp)
        simp [notUp]; omega
    have n2 : (o.any fun k => decide (sqS k s.x s.y ≤ r * r)) = false := by
      rw [List.any_eq_false]; intro k hk
      have := (List.pairwise_append.1 h3).2.2 k hk s (by simp)
      simpa [farP] using this
    rw [n1, n2, if_neg (by decide), if_neg (by decide)]
    have := kRun_of hu S (o ++ [s]) (fun t ht => h1 t (by simp [ht])) (by simpa using h2) (by simpa using h3)
    simpa using this
theorem gRun_of {l S : List Sg} {r : Int} : ∀ (G : List (Int × Int)) (p : Option Int), (G.Pairwise fun a b => a.1 < b.1) → (∀ q, p = some q → ∀ x ∈ G, q < x.1) →
    (∀ x ∈ G, ∃ s k, (l.find? fun t => t.n == x.1) = some s ∧ (S.find? fun t => t.n == x.2) = some k ∧ (S.find? fun t => t.n == x.1) = none ∧ sqS k s.x s.y ≤ r * r ∧ s.hi ≤ k.hi) → gRun l S r p G = true
  | [], _, _, _, _ => rfl
  | x :: G, p, h1, h2, h3 => by
    obtain ⟨s, k, g1, g2, g3, g4, g5⟩ := h3 x (by simp)
    obtain ⟨a1, a2⟩ := List.pairwise_cons.1 h1
    rw [gRun, g1, g2]
    simp only
    have u1 : gUp p x.1 = false := by
      cases p with
      | none => rfl
      | some q => have := h2 q rfl x (by simp); simp [gUp]; omega
    have u2 : gBad r s k = false := by simp [gBad]; omega
    rw [g3, if_neg (show ¬ (none : Option Sg).isSome = true from Bool.false_ne_true), u1, u2, if_neg (by decide), if_neg (by decide)]
    exact gRun_of G (some x.1) a2 (fun q hq y hy => by cases hq; exact a1 y hy) fun y hy => h3 y (by simp [hy])
theorem kpGo_of {l : List Sg} : ∀ (K o : List Int), (∀ n ∈ K, n ∈ l.map Sg.n) → (o ++ K).Pairwise (fun a b => a ≠ b) → kpGo l o K = 0
  | [], _, _, _ => rfl
  | n :: K, o, h1, h2 => by
    have e1 : (l.any fun s => s.n == n) = true := by
      obtain ⟨s, hs, e⟩ := List.mem_map.1 (h1 n (by simp))
      exact List.any_eq_true.2 ⟨s, hs, by simpa using e⟩
    have e2 : (o.any fun m => m == n) = false := by
      rw [List.any_eq_false]; intro m hm
      have := (List.pairwise_append.1 h2).2.2 m hm n (by simp)
      simpa using this
    rw [kpGo, e1, e2, if_neg (by decide), if_neg (by decide)]
    exact kpGo_of K (o ++ [n]) (fun m hm => h1 m (by simp [hm])) (by simpa using h2)
def byNum (a b : Sg) : Int := cmpI a.n b.n
theorem swoNum : SWO fun a b => decide (byNum a b < 0) where
  irrefl a := by simp only [byNum, cmpI_neg, decide_eq_false_iff_not]; omega
  trans a b c := by simp only [byNum, cmpI_neg, decide_eq_true_eq]; omega
  ntrans a b c := by simp only [byNum, cmpI_neg, decide_eq_false_iff_not]; omega
theorem num_up {kp : List Sg} (hu : NoTwo kp) : (sortL byNum kp).Pairwise fun a b => a.n < b.n :=
  (sortL_strict swoNum (noTwo_nodup hu) fun a ha b hb h1 h2 => noTwo_eq hu a ha b hb (by simp only [byNum, cmpI_neg] at h1 h2; omega)).imp fun {a b} h => by simpa only [byNum, cmpI_neg] using h
theorem num_map {kp : List Sg} (hu : NoTwo kp) : (sortL byNum kp).map Sg.n = sortZ (kp.map Sg.n) := by
  refine sortZ_eq ((sortL_perm byNum kp).map _) ?_
  rw [List.pairwise_map]
  exact (num_up hu).imp fun {a b} h => Int.le_of_lt h
/-- What a valid sheet's thinning is like. -/
structure Shoal (l : List Sg) (r : Int) : Prop where
  e : (thinRes l r).2.2 = 0
  keep : keepRes l (thinRes l r).1 = (keepS l (thinRes l r).1, 0)
  right : rightB l r (thinRes l r).1 (thinRes l r).2.1 = true
  len : (keepS l (thinRes l r).1).length + (thinRes l r).2.1.length = l.length
  near : ∀ s ∈ l, ∃ k ∈ keepS l (thinRes l r).1, s.hi ≤ k.hi ∧ sqS k s.x s.y ≤ r * r
  again : thinRes (keepS l (thinRes l r).1) r = ((thinRes l r).1, [], 0)
theorem shoal {l : List Sg} {r : Int} (c0 : chkErr sgB Sg.n l = 0) (r0 : radB r = 0) : Shoal l r := by
  obtain ⟨hl5, hall, hu⟩ := chk_zero c0
  have huo : NoTwo (sortL cfThin l) := noTwo_perm (sortL_perm cfThin l).symm hu
  have hso : (sortL cfThin l).Pairwise fun a b => b.hi ≤ a.hi := (sortL_sorted swoThin l).imp fun {a b} h => by rw [cfThin_lt] at h; omega
  have hstr : (sortL cfThin l).Pairwise fun a b => cfThin a b < 0 := sortL_strict swoThin (noTwo_nodup hu) fun a ha b hb h1 h2 => noTwo_eq hu a ha b hb (by rw [cfThin_lt] at h1 h2; omega)
  have hmem : ∀ {s}, s ∈ sortL cfThin l ↔ s ∈ l := fun {s} => (sortL_perm cfThin l).mem_iff
  obtain ⟨f1, f2, f3, f4⟩ := thin_facts r (sortL cfThin l) huo hso
  obtain ⟨p1, _⟩ := thin_split r (sortL cfThin l) huo fun s hs => sg_pos (hall s (hmem.1 hs))
  have hpg := thin_pairs r hu
  have hln := thinO_len r (sortL cfThin l)
  have eT : thinRes l r = (sortZ ((thinO r (sortL cfThin l)).1.map Sg.n), sortL (fun a b => cmpI a.1 b.1) (thinO r (sortL cfThin l)).2, 0) := by
    rw [thinRes, if_neg (by simpa using c0), if_neg (by simpa using r0)]
  generalize thinO r (sortL cfThin l) = q at *
  obtain ⟨kp, gs⟩ := q
  dsimp only at f1 f2 f3 f4 p1 hpg hln eT
  have hkl : ∀ s ∈ kp, s ∈ l := fun s hs => hmem.1 (f1.subset hs)
  have hku : NoTwo kp := huo.sublist f1
  have hin : ∀ s ∈ sortL cfThin l, ((sortZ (kp.map Sg.n)).any fun m => m == s.n) = decide (gdF gs s.n = 0) := by
    intro s hs
    rw [Bool.eq_iff_iff, List.any_eq_true, decide_eq_true_eq]
    constructor
    · rintro ⟨m, hm, e⟩
      obtain ⟨k, hk, e2⟩ := List.mem_map.1 ((sortZ_perm _).subset hm)
      have : k = s := noTwo_eq huo k (f1.subset hk) s hs (by rw [e2]; simpa using e)
      subst this
      rw [p1] at hk
      simpa using (List.mem_filter.1 hk).2
    · intro h
      have : s ∈ kp := by rw [p1]; exact List.mem_filter.2 ⟨hs, by simpa using h⟩
      exact ⟨s.n, (sortZ_perm _).symm.subset (List.mem_map.2 ⟨s, this, rfl⟩), by simp⟩
  have hkS : (keepS l (sortZ (kp.map Sg.n))).Perm kp := by
    have h1 : (keepS l (sortZ (kp.map Sg.n))).Perm ((sortL cfThin l).filter fun s => (sortZ (kp.map Sg.n)).any fun m => m == s.n) := ((sortL_perm cfThin l).symm.filter _)
    refine h1.trans ?_
    rw [List.filter_congr hin, ← p1]
  have hkey : ∀ x ∈ sortL (fun a b : Int × Int => cmpI a.1 b.1) gs, x ∈ gs := fun x hx => (sortL_perm _ _).subset hx
  have swoG : SWO fun x y : Int × Int => decide (cmpI x.1 y.1 < 0) := ⟨fun x => by simp only [cmpI_neg, decide_eq_false_iff_not]; omega, fun x y z => by simp only [cmpI_neg, decide_eq_true_eq]; omega, fun x y z => by simp only [cmpI_neg, decide_eq_false_iff_not]; omega⟩
  have hGup : (sortL (fun a b : Int × Int => cmpI a.1 b.1) gs).Pairwise fun a b => a.1 < b.1 := by
    have h1 := (sortL_sorted swoG gs).and ((sortL_perm (fun a b : Int × Int => cmpI a.1 b.1) gs).symm.pairwise hpg fun h e => h e.symm)
    exact h1.imp fun {a b} h => by rw [cmpI_neg] at h; omega
  have hS1 : ∀ {s}, s ∈ sortL byNum kp ↔ s ∈ kp := fun {s} => (sortL_perm byNum kp).mem_iff
  have hSu : NoTwo (sortL byNum kp) := noTwo_perm (sortL_perm byNum kp).symm hku
  constructor
  all_goals rw [eT]
  · rw [keepRes, if_neg (by simpa using c0)]
    dsimp only
    rw [← num_map hku, kpGo_of ((sortL byNum kp).map Sg.n) [] (fun n hn => by
      obtain ⟨s, hs, rfl⟩ := List.mem_map.1 hn
      exact List.mem_map.2 ⟨s, hkl s (hS1.1 hs), rfl⟩) (by
      rw [List.nil_append, List.pairwise_map]; exact hSu), if_neg (by decide)]
  · have e1 : kRun l r [] ((sortL byNum kp).map Sg.n) = some (sortL byNum kp) := by
      have := kRun_of (r := r) hu (sortL byNum kp) [] (fun s hs => hkl s (hS1.1 hs)) (num_up hku) ((sortL_perm byNum kp).symm.pairwise f2 far_symm)
      rwa [List.nil_append] at this
    have hlenT : (sortZ (kp.map Sg.n)).length + (sortL (fun a b : Int × Int => cmpI a.1 b.1) gs).length = l.length := by
      rw [sortZ_len, List.length_map, sortL_len, hln, sortL_len]
    rw [rightB, decide_eq_true hlenT, Bool.true_and]
    dsimp only
    rw [← num_map hku, e1]
    dsimp only
    refine gRun_of _ none hGup (fun q hq => (by cases hq)) fun x hx => ?_
    obtain ⟨s, k, g1, g2, rfl, g4, g5, g6⟩ := f4 x (hkey x hx)
    refine ⟨s, k, find_self hu (hmem.1 g1), find_self hSu (hS1.2 g2), ?_, g4, g5⟩
    rw [List.find?_eq_none]
    intro t ht e
    have := noTwo_eq huo t (f1.subset (hS1.1 ht)) s g1 (by simpa using e)
    exact g6 (this ▸ hS1.1 ht)
  · dsimp only
    rw [hkS.length_eq, sortL_len, hln, sortL_len]
  · intro s hs
    dsimp only
    rcases f3 s (hmem.2 hs) with h | ⟨k, hk, hg⟩
    · have h0 := rr_nn r
      exact ⟨s, hkS.symm.subset h, Int.le_refl _, by simp [sqS]; exact h0⟩
    · obtain ⟨t, k', g1, g2, g3, g4, g5, _⟩ := f4 _ hg
      simp only [Prod.mk.injEq] at g3
      have e1 := noTwo_eq huo s (hmem.2 hs) t g1 g3.1
      have e2 := noTwo_eq hku k hk k' g2 g3.2
      subst e1; subst e2
      exact ⟨k, hkS.symm.subset hk, g5, g4⟩
  · dsimp only
    have c1 : chkErr sgB Sg.n (keepS l (sortZ (kp.map Sg.n))) = 0 := chk_of (by have := keep_len l (sortZ (kp.map Sg.n)); omega) (fun x hx => hall x ((List.mem_filter.1 hx).1)) (hu.filter _)
    have e1 : kp = sortL cfThin (keepS l (sortZ (kp.map Sg.n))) := sortL_eq swoThin hkS.symm (hstr.sublist f1)
    rw [thinRes, if_neg (by simpa using c1), if_neg (by simpa using r0), ← e1, thin_far kp f2]
    have e2 : sortL (fun a b : Int × Int => cmpI a.1 b.1) [] = [] := List.eq_nil_of_length_eq_zero (by rw [sortL_len]; rfl)
    rw [e2]
end Go.Proofs.Tryz
end

section
namespace Go.Proofs.Tryz
open Go Go.Vm Go.Sort
set_option maxRecDepth 20000
set_option maxHeartbeats 4000000
/-! near; SoundingShoals. -/
theorem ev_near (m : List Sg) (s : Sg) (r : Int) (hl : m.length ≤ 1000) (hp : ∀ s ∈ m, -1000000 ≤ s.x ∧ s.x ≤ 1000000 ∧ -1000000 ≤ s.y ∧ s.y ≤ 1000000) (hs : -1000000 ≤ s.x ∧ s.x ≤ 1000000 ∧ -1000000 ≤ s.y ∧ s.y ≤ 1000000) (hr : 0 ≤ r ∧ r ≤ 4000000)
    (h : ∃ k ∈ m, s.hi ≤ k.hi ∧ sqS k s.x s.y ≤ r * r) : Ev Tryz.prog 44 [.sl 5 (m.map sgD), sgD s, iD r] (.bool true) := by
  have hlen : (m.map sgD).length = m.length := List.length_map _
  have hrr := mul_bd (x := r) (y := r) (X := 4000000) (Y := 4000000) (by omega) (by omega)
  refine ev_of_awp tysOk mixed (fn := Tryz.f44) Tryz.func44 rfl rfl rfl ?_
  conv => whnf
  repeat' (first
    | ((with_reducible refine Split.of_true ?_); conv => whnf)
    | ((with_reducible refine Split.of_false ?_); conv => whnf)
    | ((with_reducible refine Split.neg ?_))
    | ((with_reducible refine Split.is_true ?_ ?_); decide; conv => whnf)
    | ((with_reducible refine Split.is_false ?_ ?_); decide; conv => whnf)
    | ((with_reducible refine Split.nez (fun _ => ?_) (fun _ => ?_)) <;> conv => whnf)
    | ((with_reducible refine Split.eqz (fun _ => ?_) (fun _ => ?_)) <;> conv => whnf)
    | ((with_reducible refine Split.and ?_))
    | ((with_reducible refine Split.or ?_))
    | ((with_reducible refine Split.streq (fun _ => ?_) (fun _ => ?_)) <;> conv => whnf)
    | ((with_reducible refine Split.dec (fun _ => ?_) (fun _ => ?_)) <;> conv => whnf)
    | ((with_reducible refine Split.mk (fun _ => ?_) (fun _ => ?_)) <;> conv => whnf)
    | ((with_reducible refine NilK.mk (fun _ => ?_) ?_) <;> conv => whnf)
    | ((with_reducible refine AltK.l ?_); (conv => whnf); (with_reducible refine Need.mk ?_ ?_); (first | omega | (refine ⟨?_, ?_⟩ <;> simp <;> omega) | (simp; omega)); conv => whnf)
    | ((with_reducible refine Need.mk ?_ ?_); (first | omega | rfl | decide | (refine ⟨?_, ?_⟩ <;> simp <;> omega) | (simp; omega)); conv => whnf)
    | ((with_reducible refine Wr.quo ?_ ?_ ?_ ?_); omega; omega; omega; conv => whnf)
    | ((with_reducible refine Wr.inr ?_ ?_); (first | omega | (simp; omega)); conv => whnf)
    | ((with_reducible refine Wr.inu ?_ ?_); omega; conv => whnf)
    | (exfalso; first | omega | contradiction))
  refine LoopK.o2 (fun i : Nat => i ≤ m.length ∧ ∀ k ∈ m.take i, ¬ (s.hi ≤ k.hi ∧ sqS k s.x s.y ≤ r * r)) (fun i => [(7, .d (.int .i64 i))]) (fun _ => []) (fun i => m.length - i) 0 (by simp) (by refine ⟨?_, ?_, rfl⟩ <;> (repeat' (first | exact True.intro | exact rfl | refine ⟨?_, ?_⟩ | (intro h; cases h; done) | (intro h; exact h) | exact map_snoc | (refine own_congr ?_; simp; done) | (refine int_congr ?_; (first | omega | (simp; omega))) | (simp; done)))) ?_
  rintro i ⟨hi, hf⟩
  by_cases him : i < m.length
  · obtain ⟨k, hk⟩ := some_of_lt him
    have h1 := ev_Square k.x k.y s.x s.y (hp k (List.mem_of_getElem? hk)) hs
    rw [show (k.x - s.x) * (k.x - s.x) + (k.y - s.y) * (k.y - s.y) = sqS k s.x s.y from rfl] at h1
    conv => whnf
    repeat' (first
      | ((refine PickE.map i hk (by omega) ?_); conv => whnf)
      | ((with_reducible refine Split.of_true ?_); conv => whnf)
      | ((with_reducible refine Split.of_false ?_); conv => whnf)
      | ((with_reducible refine Split.neg ?_))
      | ((with_reducible refine Split.is_true ?_ ?_); decide; conv => whnf)
      | ((with_reducible refine Split.is_false ?_ ?_); decide; conv => whnf)
      | ((with_reducible refine Split.nez (fun _ => ?_) (fun _ => ?_)) <;> conv => whnf)
      | ((with_reducible refine Split.eqz (fun _ => ?_) (fun _ => ?_)) <;> conv => whnf)
      | ((with_reducible refine Split.and ?_))
      | ((with_reducible refine Split.or ?_))
      | ((with_reducible refine Split.streq (fun _ => ?_) (fun _ => ?_)) <;> conv => whnf)
      | ((with_reducible refine Split.dec (fun _ => ?_) (fun _ => ?_)) <;> conv => whnf)
      | ((with_reducible refine Split.mk (fun _ => ?_) (fun _ => ?_)) <;> conv => whnf)
      | ((with_reducible refine NilK.mk (fun _ => ?_) ?_) <;> conv => whnf)
      | ((with_reducible refine AltK.l ?_); (conv => whnf); (with_reducible refine Need.mk ?_ ?_); (first | omega | (refine ⟨?_, ?_⟩ <;> simp <;> omega) | (simp; omega)); conv => whnf)
      | ((with_reducible refine Need.mk ?_ ?_); (first | omega | rfl | decide | (refine ⟨?_, ?_⟩ <;> simp <;> omega) | (simp; omega)); conv => whnf)
      | ((with_reducible refine Wr.quo ?_ ?_ ?_ ?_); omega; omega; omega; conv => whnf)
      | ((with_reducible refine Wr.inr ?_ ?_); (first | omega | (simp; omega)); conv => whnf)
      | ((with_reducible refine Wr.inu ?_ ?_); omega; conv => whnf)
      | ((with_reducible refine AltK.l ?_); (conv => whnf); (first | (refine CallK.mk _ (h1) ?_)); conv => whnf)
      | (exfalso; first | omega | contradiction))
    all_goals first
      | rfl
      | (refine Again.au (i + 1) ⟨by omega, fun y hy => ?_⟩ (by omega) (by refine ⟨?_, ?_, rfl⟩ <;> (repeat' (first | exact True.intro | exact rfl | refine ⟨?_, ?_⟩ | (intro h; cases h; done) | (intro h; exact h) | exact map_snoc | (refine own_congr ?_; simp; done) | (refine int_congr ?_; (first | omega | (simp; omega))) | (simp; done))))
         rw [take_snoc hk] at hy
         rcases List.mem_append.1 hy with hy | hy
         · exact hf y hy
         · rw [List.mem_singleton.1 hy]; omega)
  · exfalso
    obtain ⟨k, hk, hkk⟩ := h
    rw [List.take_of_length_le (by omega)] at hf
    exact hf k hk hkk
theorem ev_SoundingShoals (l : List Sg) (r : Int) : Ev Tryz.prog 10 [.sl 5 (l.map sgD), iD r] (.bool true) := by
  have hlen : (l.map sgD).length = l.length := List.length_map _
  have h0 := ev_long l
  have h7 := ev_awake3
  have h1 := ev_CheckSR l
  generalize longB l.length = b at *
  cases b with
  | true =>
    refine ev_of_awp tysOk mixed (fn := Tryz.f10) Tryz.func10 rfl rfl rfl ?_
    conv => whnf
    repeat' (first
      | ((with_reducible refine Split.of_true ?_); conv => whnf)
      | ((with_reducible refine Split.of_false ?_); conv => whnf)
      | ((with_reducible refine Split.neg ?_))
      | ((with_reducible refine Split.is_true ?_ ?_); decide; conv => whnf)
      | ((with_reducible refine Split.is_false ?_ ?_); decide; conv => whnf)
      | ((with_reducible refine Split.nez (fun _ => ?_) (fun _ => ?_)) <;> conv => whnf)
      | ((with_reducible refine Split.eqz (fun _ => ?_) (fun _ => ?_)) <;> conv => whnf)
      | ((with_reducible refine Split.and ?_))
      | ((with_reducible refine Split.or ?_))
      | ((with_reducible refine Split.streq (fun _ => ?_) (fun _ => ?_)) <;> conv => whnf)
      | ((with_reducible refine Split.dec (fun _ => ?_) (fun _ => ?_)) <;> conv => whnf)
      | ((with_reducible refine Split.mk (fun _ => ?_) (fun _ => ?_)) <;> conv => whnf)
      | ((with_reducible refine NilK.mk (fun _ => ?_) ?_) <;> conv => whnf)
      | ((with_reducible refine AltK.l ?_); (conv => whnf); (with_reducible refine Need.mk ?_ ?_); (first | omega | (refine ⟨?_, ?_⟩ <;> simp <;> omega) | (simp; omega)); conv => whnf)
      | ((with_reducible refine Need.mk ?_ ?_); (first | omega | rfl | decide | (refine ⟨?_, ?_⟩ <;> simp <;> omega) | (simp; omega)); conv => whnf)
      | ((with_reducible refine Wr.quo ?_ ?_ ?_ ?_); omega; omega; omega; conv => whnf)
      | ((with_reducible refine Wr.inr ?_ ?_); (first | omega | (simp; omega)); conv => whnf)
      | ((with_reducible refine Wr.inu ?_ ?_); omega; conv => whnf)
      | ((with_reducible refine AltK.l ?_); (conv => whnf); (first | (refine CallK.mk _ (h0) ?_) | (refine CallK.mk _ (h7) ?_)); conv => whnf)
      | (exfalso; first | omega | contradiction))
    rfl
  | false =>
    by_cases good : chkErr sgB Sg.n l = 0 ∧ 0 ≤ r ∧ r ≤ 2000000
    · obtain ⟨c0, r1⟩ := good
      have r0 : radB r = 0 := by
        have : outsideB r 0 2000000 = false := by simp [outsideB]; omega
        rw [radB, this]; rfl
      have hS := shoal c0 r0
      have h2 := ev_Thin l r
      have hct : ctErr l r (thinRes l r).1 (thinRes l r).2.1 = 0 := by
        rw [ctErr, if_neg (by simpa using c0), if_neg (by simpa using r0), if_pos hS.right]
      obtain ⟨n1, n2⟩ := thin_len' l r
      have h3 := ev_Keep l (thinRes l r).1 (thinRes l r).2.1 (by omega)
      have h4 := ev_CheckThin l r (thinRes l r).1 (thinRes l r).2.1 (by omega) (by omega)
      have h5 := ev_Thin (keepS l (thinRes l r).1) r
      have h6 := ev_Ints (thinRes l r).1 (thinRes l r).1 (by omega)
      have hk5 := keep_len l (thinRes l r).1
      obtain ⟨hl5, hall, hu⟩ := chk_zero c0
      have hnear := hS.near
      have hklen := hS.len
      rw [decide_eq_true rfl] at h6
      rw [hS.keep] at h3
      rw [hct] at h4
      rw [hS.again] at h5
      rw [c0] at h1
      have e3 := hS.e
      generalize thinRes l r = q at *
      obtain ⟨q1, q2, q3⟩ := q
      dsimp only at *
      subst e3
      have hpk : ∀ s ∈ keepS l q1, s ∈ l := fun s hs => (List.mem_filter.1 hs).1
      generalize keepS l q1 = M at *
      have hM : (M.map sgD).length = M.length := List.length_map _
      have hq2 : (q2.map gdD).length = q2.length := List.length_map _
      replace h2 : Ev Tryz.prog 30 [.sl 5 (l.map sgD), iD r] (.tup [thD q1 q2, iD 0]) := h2
      replace h3 : Ev Tryz.prog 32 [.sl 5 (l.map sgD), thD q1 q2] (.tup [.sl 5 (M.map sgD), iD 0]) := h3
      replace h5 : Ev Tryz.prog 30 [.sl 5 (M.map sgD), iD r] (.tup [thD q1 [], iD 0]) := h5
      refine ev_of_awp tysOk mixed (fn := Tryz.f10) Tryz.func10 rfl rfl rfl ?_
      conv => whnf
      repeat' (first
        | ((with_reducible refine Split.of_true ?_); conv => whnf)
        | ((with_reducible refine Split.of_false ?_); conv => whnf)
        | ((with_reducible refine Split.neg ?_))
        | ((with_reducible refine Split.is_true ?_ ?_); decide; conv => whnf)
        | ((with_reducible refine Split.is_false ?_ ?_); decide; conv => whnf)
        | ((with_reducible refine Split.nez (fun _ => ?_) (fun _ => ?_)) <;> conv => whnf)
        | ((with_reducible refine Split.eqz (fun _ => ?_) (fun _ => ?_)) <;> conv => whnf)
        | ((with_reducible refine Split.and ?_))
        | ((with_reducible refine Split.or ?_))
        | ((with_reducible refine Split.streq (fun _ => ?_) (fun _ => ?_)) <;> conv => whnf)
        | ((with_reducible refine Split.dec (fun _ => ?_) (fun _ => ?_)) <;> conv => whnf)
        | ((with_reducible refine Split.mk (fun _ => ?_) (fun _ => ?_)) <;> conv => whnf)
        | ((with_reducible refine NilK.mk (fun _ => ?_) ?_) <;> conv => whnf)
        | ((with_reducible refine AltK.l ?_); (conv => whnf); (with_reducible refine Need.mk ?_ ?_); (first | omega | (refine ⟨?_, ?_⟩ <;> simp <;> omega) | (simp; omega)); conv => whnf)
        | ((with_reducible refine Need.mk ?_ ?_); (first | omega | rfl | decide | (refine ⟨?_, ?_⟩ <;> simp <;> omega) | (simp; omega)); conv => whnf)
        | ((with_reducible refine Wr.quo ?_ ?_ ?_ ?_); omega; omega; omega; conv => whnf)
        | ((with_reducible refine Wr.inr ?_ ?_); (first | omega | (simp; omega)); conv => whnf)
        | ((with_reducible refine Wr.inu ?_ ?_); omega; conv => whnf)
        | ((with_reducible refine AltK.l ?_); (conv => whnf); (first | (refine CallK.mk _ (h0) ?_) | (refine CallK.mk _ (h1) ?_) | (refine CallK.mk _ (h2) ?_) | (refine CallK.mk _ (h3) ?_) | (refine CallK.mk _ (h4) ?_)); conv => whnf)
        | (exfalso; first | omega | contradiction))
      refine LoopK.o2 (fun i : Nat => i ≤ l.length) (fun i => [(9, .d (.int .i64 i))]) (fun _ => []) (fun i => l.length - i) 0 (by simp) (by refine ⟨?_, ?_, rfl⟩ <;> (repeat' (first | exact True.intro | exact rfl | refine ⟨?_, ?_⟩ | (intro h; cases h; done) | (intro h; exact h) | exact map_snoc | (refine own_congr ?_; simp; done) | (refine int_congr ?_; (first | omega | (simp; omega))) | (simp; done)))) ?_
      rintro i hi
      by_cases hil : i < l.length
      · obtain ⟨s, hs⟩ := some_of_lt hil
        have hsl := List.mem_of_getElem? hs
        have hsp := sg_place (hall s hsl)
        have hkp : ∀ s ∈ M, -1000000 ≤ s.x ∧ s.x ≤ 1000000 ∧ -1000000 ≤ s.y ∧ s.y ≤ 1000000 := fun s hs => sg_place (hall s (hpk s hs))
        have hn := hnear s hsl
        have g1 := ev_near M s r (by omega) hkp hsp (by omega) hn
        have g2 := ev_near M s 4000000 (by omega) hkp hsp (by omega) (by
          obtain ⟨k, hk, k1, k2⟩ := hn
          have hrr := mul_bd (x := r) (y := r) (X := 2000000) (Y := 2000000) (by omega) (by omega)
          exact ⟨k, hk, k1, by omega⟩)
        conv => whnf
        repeat' (first
          | ((refine PickE.map i hs (by omega) ?_); conv => whnf)
          | ((with_reducible refine Split.of_true ?_); conv => whnf)
          | ((with_reducible refine Split.of_false ?_); conv => whnf)
          | ((with_reducible refine Split.neg ?_))
          | ((with_reducible refine Split.is_true ?_ ?_); decide; conv => whnf)
          | ((with_reducible refine Split.is_false ?_ ?_); decide; conv => whnf)
          | ((with_reducible refine Split.nez (fun _ => ?_) (fun _ => ?_)) <;> conv => whnf)
          | ((with_reducible refine Split.eqz (fun _ => ?_) (fun _ => ?_)) <;> conv => whnf)
          | ((with_reducible refine Split.and ?_))
          | ((with_reducible refine Split.or ?_))
          | ((with_reducible refine Split.streq (fun _ => ?_) (fun _ => ?_)) <;> conv => whnf)
          | ((with_reducible refine Split.dec (fun _ => ?_) (fun _ => ?_)) <;> conv => whnf)
          | ((with_reducible refine Split.mk (fun _ => ?_) (fun _ => ?_)) <;> conv => whnf)
          | ((with_reducible refine NilK.mk (fun _ => ?_) ?_) <;> conv => whnf)
          | ((with_reducible refine AltK.l ?_); (conv => whnf); (with_reducible refine Need.mk ?_ ?_); (first | omega | (refine ⟨?_, ?_⟩ <;> simp <;> omega) | (simp; omega)); conv => whnf)
          | ((with_reducible refine Need.mk ?_ ?_); (first | omega | rfl | decide | (refine ⟨?_, ?_⟩ <;> simp <;> omega) | (simp; omega)); conv => whnf)
          | ((with_reducible refine Wr.quo ?_ ?_ ?_ ?_); omega; omega; omega; conv => whnf)
          | ((with_reducible refine Wr.inr ?_ ?_); (first | omega | (simp; omega)); conv => whnf)
          | ((with_reducible refine Wr.inu ?_ ?_); omega; conv => whnf)
          | ((with_reducible refine AltK.l ?_); (conv => whnf); (first | (refine CallK.mk _ (g1) ?_) | (refine CallK.mk _ (g2) ?_)); conv => whnf)
          | (exfalso; first | omega | contradiction))
        exact Again.au (i + 1) (by omega) (by omega) (by refine ⟨?_, ?_, rfl⟩ <;> (repeat' (first | exact True.intro | exact rfl | refine ⟨?_, ?_⟩ | (intro h; cases h; done) | (intro h; exact h) | exact map_snoc | (refine own_congr ?_; simp; done) | (refine int_congr ?_; (first | omega | (simp; omega))) | (simp; done))))
      · conv => whnf
        repeat' (first
          | ((with_reducible refine Split.of_true ?_); conv => whnf)
          | ((with_reducible refine Split.of_false ?_); conv => whnf)
          | ((with_reducible refine Split.neg ?_))
          | ((with_reducible refine Split.is_true ?_ ?_); decide; conv => whnf)
          | ((with_reducible refine Split.is_false ?_ ?_); decide; conv => whnf)
          | ((with_reducible refine Split.nez (fun _ => ?_) (fun _ => ?_)) <;> conv => whnf)
          | ((with_reducible refine Split.eqz (fun _ => ?_) (fun _ => ?_)) <;> conv => whnf)
          | ((with_reducible refine Split.and ?_))
          | ((with_reducible refine Split.or ?_))
          | ((with_reducible refine Split.streq (fun _ => ?_) (fun _ => ?_)) <;> conv => whnf)
          | ((with_reducible refine Split.dec (fun _ => ?_) (fun _ => ?_)) <;> conv => whnf)
          | ((with_reducible refine Split.mk (fun _ => ?_) (fun _ => ?_)) <;> conv => whnf)
          | ((with_reducible refine NilK.mk (fun _ => ?_) ?_) <;> conv => whnf)
          | ((with_reducible refine AltK.l ?_); (conv => whnf); (with_reducible refine Need.mk ?_ ?_); (first | omega | (refine ⟨?_, ?_⟩ <;> simp <;> omega) | (simp; omega)); conv => whnf)
          | ((with_reducible refine Need.mk ?_ ?_); (first | omega | rfl | decide | (refine ⟨?_, ?_⟩ <;> simp <;> omega) | (simp; omega)); conv => whnf)
          | ((with_reducible refine Wr.quo ?_ ?_ ?_ ?_); omega; omega; omega; conv => whnf)
          | ((with_reducible refine Wr.inr ?_ ?_); (first | omega | (simp; omega)); conv => whnf)
          | ((with_reducible refine Wr.inu ?_ ?_); omega; conv => whnf)
          | ((with_reducible refine AltK.l ?_); (conv => whnf); (first | (refine CallK.mk _ (h5) ?_) | (refine CallK.mk _ (h6) ?_) | (refine CallK.mk _ (h7) ?_)); conv => whnf)
          | (exfalso; first | omega | contradiction))
        all_goals rfl
    · refine ev_of_awp tysOk mixed (fn := Tryz.f10) Tryz.func10 rfl rfl rfl ?_
      conv => whnf
      repeat' (first
        | ((with_reducible refine Split.of_true ?_); conv => whnf)
        | ((with_reducible refine Split.of_false ?_); conv => whnf)
        | ((with_reducible refine Split.neg ?_))
        | ((with_reducible refine Split.is_true ?_ ?_); decide; conv => whnf)
        | ((with_reducible refine Split.is_false ?_ ?_); decide; conv => whnf)
        | ((with_reducible refine Split.nez (fun _ => ?_) (fun _ => ?_)) <;> conv => whnf)
        | ((with_reducible refine Split.eqz (fun _ => ?_) (fun _ => ?_)) <;> conv => whnf)
        | ((with_reducible refine Split.and ?_))
        | ((with_reducible refine Split.or ?_))
        | ((with_reducible refine Split.streq (fun _ => ?_) (fun _ => ?_)) <;> conv => whnf)
        | ((with_reducible refine Split.dec (fun _ => ?_) (fun _ => ?_)) <;> conv => whnf)
        | ((with_reducible refine Split.mk (fun _ => ?_) (fun _ => ?_)) <;> conv => whnf)
        | ((with_reducible refine NilK.mk (fun _ => ?_) ?_) <;> conv => whnf)
        | ((with_reducible refine AltK.l ?_); (conv => whnf); (with_reducible refine Need.mk ?_ ?_); (first | omega | (refine ⟨?_, ?_⟩ <;> simp <;> omega) | (simp; omega)); conv => whnf)
        | ((with_reducible refine Need.mk ?_ ?_); (first | omega | rfl | decide | (refine ⟨?_, ?_⟩ <;> simp <;> omega) | (simp; omega)); conv => whnf)
        | ((with_reducible refine Wr.quo ?_ ?_ ?_ ?_); omega; omega; omega; conv => whnf)
        | ((with_reducible refine Wr.inr ?_ ?_); (first | omega | (simp; omega)); conv => whnf)
        | ((with_reducible refine Wr.inu ?_ ?_); omega; conv => whnf)
        | ((with_reducible refine AltK.l ?_); (conv => whnf); (first | (refine CallK.mk _ (h0) ?_) | (refine CallK.mk _ (h1) ?_) | (refine CallK.mk _ (h7) ?_)); conv => whnf)
        | (exfalso; first | omega | contradiction))
      all_goals first | rfl | (exfalso; omega)
end Go.Proofs.Tryz
end
