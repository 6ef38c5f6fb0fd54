import Derived.Test.YtgfaonnajdoeoaaTrB
namespace Go.Proofs.Try
open Go Go.Vm
set_option maxRecDepth 20000
set_option maxHeartbeats 2000000
structure LGood (l : List Ln) : Prop where
  two : 2 ≤ l.length
  len : l.length ≤ 40
  ok : ∀ x ∈ l, 0 ≤ x.m ∧ x.m ≤ 1000000000 ∧ 0 ≤ x.d ∧ x.d ≤ 5000
  asc : l.Pairwise (fun a b => a.m < b.m ∧ a.d ≤ b.d)
theorem lineErr_zero : ∀ (l : List Ln) (p : Option Ln), lineErr p l = 0 → (∀ x ∈ l, 0 ≤ x.m ∧ x.m ≤ 1000000000 ∧ 0 ≤ x.d ∧ x.d ≤ 5000) ∧ l.Pairwise (fun a b => a.m < b.m ∧ a.d ≤ b.d) ∧ ∀ q, p = some q → ∀ x ∈ l, q.m < x.m ∧ q.d ≤ x.d
  | [], p, _ => ⟨by simp, List.Pairwise.nil, by simp⟩
  | x :: r, p, h => by
    simp only [lineErr] at h
    split at h
    · cases h
    rename_i hb
    have hx : 0 ≤ x.m ∧ x.m ≤ 1000000000 ∧ 0 ≤ x.d ∧ x.d ≤ 5000 := by
      simp [badLn, outsideB] at hb; omega
    have key : lineErr (some x) r = 0 ∧ ∀ q, p = some q → q.m < x.m ∧ q.d ≤ x.d := by
      split at h
      · split at h
        · cases h
        · rename_i q h1
          exact ⟨h, fun q' hq => by cases hq; omega⟩
      · exact ⟨h, fun q hq => by cases hq⟩
    obtain ⟨h1, h2, h3⟩ := lineErr_zero r (some x) key.1
    refine ⟨?_, List.pairwise_cons.2 ⟨fun y hy => h3 x rfl y hy, h2⟩, ?_⟩
    · intro y hy
      rcases List.mem_cons.1 hy with rfl | hy
      · exact hx
      · exact h1 y hy
    · intro q hq y hy
      have k := key.2 q hq
      rcases List.mem_cons.1 hy with rfl | hy
      · exact k
      · have := h3 x rfl y hy
        omega
theorem hop_good {h : Hp} (h0 : hopErr h = 0) : LGood h.lines ∧ nameB h.name = true := by
  unfold hopErr at h0
  split at h0
  · cases h0
  rename_i h1
  split at h0
  · cases h0
  split at h0
  · cases h0
  split at h0
  · cases h0
  obtain ⟨a, b, -⟩ := lineErr_zero _ _ h0
  exact ⟨⟨by omega, by omega, a, b⟩, by simpa using h1⟩
def posL (l : List Ln) (t : Int) : Nat := (l.takeWhile fun x => decide (x.m < t)).length
theorem posL_le (l : List Ln) (t : Int) : posL l t ≤ l.length := (List.takeWhile_prefix _).length_le
theorem posL_lt {t : Int} : ∀ {l : List Ln} (k : Nat) x, l[k]? = some x → k < posL l t → x.m < t
  | [], k, x, h, _ => by simp at h
  | y :: r, k, x, h, hk => by
    by_cases hy : y.m < t
    · have e : posL (y :: r) t = posL r t + 1 := by simp [posL, hy]
      cases k with
      | zero => simp at h; subst h; exact hy
      | succ k => exact posL_lt (l := r) k x (by simpa using h) (by omega)
    · have e : posL (y :: r) t = 0 := by simp [posL, hy]
      omega
theorem posL_ge {t : Int} : ∀ {l : List Ln} x, l[posL l t]? = some x → t ≤ x.m
  | [], x, h => by simp at h
  | y :: r, x, h => by
    by_cases hy : y.m < t
    · have e : posL (y :: r) t = posL r t + 1 := by simp [posL, hy]
      rw [e] at h
      exact posL_ge (l := r) x (by simpa using h)
    · have e : posL (y :: r) t = 0 := by simp [posL, hy]
      rw [e] at h; simp at h; subst h; omega
def ladeAt (l : List Ln) (p : Nat) (t : Int) : Int := match l[p]? with
  | some b => match p with
    | 0 => b.d
    | q + 1 => match l[q]? with
      | some a => a.d + upZ ((b.d - a.d) * (t - a.m)) (b.m - a.m)
      | none => 0
  | none => 0
def ladeS (l : List Ln) (t : Int) : Int := ladeAt l (posL l t) t
theorem tmod_facts (a b : Int) (hb : 0 < b) : (if a.tmod b < 0 then a.tmod b + b else a.tmod b) = a % b := by
  have h1 := Int.tmod_eq_emod (a := a) (b := b)
  have h2 := Int.emod_nonneg a (Int.ne_of_gt hb)
  have h3 := Int.emod_lt_of_pos a hb
  rw [h1]
  have hn : (b.natAbs : Int) = b := by omega
  split <;> split <;> omega
theorem ev_Mod (a b : Int) (hb : 0 < b ∧ b ≤ 4000000000000) : Ev Try.prog 63 [iD a, iD b] (iD (a % b)) := by
  have h := tmod_facts a b hb.1
  have h1 := Int.tmod_eq_emod (a := a) (b := b)
  have h2 := Int.emod_nonneg a (Int.ne_of_gt hb.1)
  have h3 := Int.emod_lt_of_pos a hb.1
  have hn : (b.natAbs : Int) = b := by omega
  have hbd : -4000000000000 ≤ a.tmod b ∧ a.tmod b ≤ 4000000000000 := by rw [h1]; split <;> omega
  clear h1
  refine ev_of_awp tysOk mixed (fn := Try.f63) Try.func63 rfl rfl rfl ?_
  conv => whnf
  repeat' (first
    | ((with_reducible refine Split.of_true ?_); conv => whnf)
    | ((with_reducible refine Split.of_false ?_); conv => whnf)
    | ((with_reducible refine Split.neg ?_))
    | ((with_reducible refine Split.is_true ?_ ?_); decide; conv => whnf)
    | ((with_reducible refine Split.is_false ?_ ?_); decide; conv => whnf)
    | ((with_reducible refine Split.nez (fun _ => ?_) (fun _ => ?_)) <;> conv => whnf)
    | ((with_reducible refine Split.eqz (fun _ => ?_) (fun _ => ?_)) <;> conv => whnf)
    | ((with_reducible refine Split.and ?_))
    | ((with_reducible refine Split.or ?_))
    | ((with_reducible refine Split.streq (fun _ => ?_) (fun _ => ?_)) <;> conv => whnf)
    | ((with_reducible refine Split.dec (fun _ => ?_) (fun _ => ?_)) <;> conv => whnf)
    | ((with_reducible refine Split.mk (fun _ => ?_) (fun _ => ?_)) <;> conv => whnf)
    | ((with_reducible refine Need.mk ?_ ?_); (first | omega | rfl | decide | (refine ⟨?_, ?_⟩ <;> simp <;> omega) | (simp; omega)); conv => whnf)
    | ((with_reducible refine Wr.quo ?_ ?_ ?_ ?_); omega; omega; omega; conv => whnf)
    | ((with_reducible refine Wr.inr ?_ ?_); (first | omega | (simp; omega)); conv => whnf)
    | ((with_reducible refine Wr.inu ?_ ?_); omega; conv => whnf)
    | (exfalso; first | omega | contradiction))
  · rw [if_pos (by assumption)] at h; rw [← h]; rfl
  · rw [if_neg (by assumption)] at h; rw [← h]; rfl
theorem ev_Floor (a b : Int) (hb : 0 < b ∧ b ≤ 4000000000000) (ha : -4000000000000000 ≤ a ∧ a ≤ 4000000000000000) : Ev Try.prog 53 [iD a, iD b] (iD (a / b)) := by
  have hM := ev_Mod a b hb
  have h2 := Int.emod_nonneg a (Int.ne_of_gt hb.1)
  have h3 := Int.emod_lt_of_pos a hb.1
  have e : (a - a % b).tdiv b = a / b := by
    have : a - a % b = b * (a / b) := by have := Int.mul_ediv_add_emod a b; omega
    rw [this, Int.mul_tdiv_cancel_left _ (Int.ne_of_gt hb.1)]
  have hq := ediv_bd (a := a) (M := 4000000000000000) hb.1 ha
  rw [← e] at hq ⊢
  generalize a % b = r at *
  refine ev_of_awp tysOk mixed (fn := Try.f53) Try.func53 rfl rfl rfl ?_
  conv => whnf
  repeat' (first
    | ((with_reducible refine Split.of_true ?_); conv => whnf)
    | ((with_reducible refine Split.of_false ?_); conv => whnf)
    | ((with_reducible refine Split.neg ?_))
    | ((with_reducible refine Split.is_true ?_ ?_); decide; conv => whnf)
    | ((with_reducible refine Split.is_false ?_ ?_); decide; conv => whnf)
    | ((with_reducible refine Split.nez (fun _ => ?_) (fun _ => ?_)) <;> conv => whnf)
    | ((with_reducible refine Split.eqz (fun _ => ?_) (fun _ => ?_)) <;> conv => whnf)
    | ((with_reducible refine Split.and ?_))
    | ((with_reducible refine Split.or ?_))
    | ((with_reducible refine Split.streq (fun _ => ?_) (fun _ => ?_)) <;> conv => whnf)
    | ((with_reducible refine Split.dec (fun _ => ?_) (fun _ => ?_)) <;> conv => whnf)
    | ((with_reducible refine Split.mk (fun _ => ?_) (fun _ => ?_)) <;> conv => whnf)
    | ((with_reducible refine Need.mk ?_ ?_); (first | omega | rfl | decide | (refine ⟨?_, ?_⟩ <;> simp <;> omega) | (simp; omega)); conv => whnf)
    | ((with_reducible refine Wr.quo ?_ ?_ ?_ ?_); omega; omega; omega; conv => whnf)
    | ((with_reducible refine Wr.inr ?_ ?_); (first | omega | (simp; omega)); conv => whnf)
    | ((with_reducible refine Wr.inu ?_ ?_); omega; conv => whnf)
    | (refine CallK.mk _ (hM) ?_; conv => whnf)
    | (exfalso; first | omega | contradiction))
  rfl
theorem ev_Ceil (a b : Int) (hb : 0 < b ∧ b ≤ 4000000000000) (ha : -4000000000000000 ≤ a ∧ a ≤ 4000000000000000) : Ev Try.prog 40 [iD a, iD b] (iD (upZ a b)) := by
  have hF := ev_Floor (-a) b hb (by omega)
  have hq := ediv_bd (a := -a) (M := 4000000000000000) hb.1 (by omega)
  unfold upZ
  generalize -a / b = r at *
  have e : 0 - a = -a := by omega
  rw [← e] at hF
  refine ev_of_awp tysOk mixed (fn := Try.f40) Try.func40 rfl rfl rfl ?_
  conv => whnf
  repeat' (first
    | ((with_reducible refine Split.of_true ?_); conv => whnf)
    | ((with_reducible refine Split.of_false ?_); conv => whnf)
    | ((with_reducible refine Split.neg ?_))
    | ((with_reducible refine Split.is_true ?_ ?_); decide; conv => whnf)
    | ((with_reducible refine Split.is_false ?_ ?_); decide; conv => whnf)
    | ((with_reducible refine Split.nez (fun _ => ?_) (fun _ => ?_)) <;> conv => whnf)
    | ((with_reducible refine Split.eqz (fun _ => ?_) (fun _ => ?_)) <;> conv => whnf)
    | ((with_reducible refine Split.and ?_))
    | ((with_reducible refine Split.or ?_))
    | ((with_reducible refine Split.streq (fun _ => ?_) (fun _ => ?_)) <;> conv => whnf)
    | ((with_reducible refine Split.dec (fun _ => ?_) (fun _ => ?_)) <;> conv => whnf)
    | ((with_reducible refine Split.mk (fun _ => ?_) (fun _ => ?_)) <;> conv => whnf)
    | ((with_reducible refine Need.mk ?_ ?_); (first | omega | rfl | decide | (refine ⟨?_, ?_⟩ <;> simp <;> omega) | (simp; omega)); conv => whnf)
    | ((with_reducible refine Wr.quo ?_ ?_ ?_ ?_); omega; omega; omega; conv => whnf)
    | ((with_reducible refine Wr.inr ?_ ?_); (first | omega | (simp; omega)); conv => whnf)
    | ((with_reducible refine Wr.inu ?_ ?_); omega; conv => whnf)
    | (refine CallK.mk _ (hF) ?_; conv => whnf)
    | (exfalso; first | omega | contradiction))
  all_goals (simp [retOf, iD] <;> omega)
theorem ev_IndexL (l : List Ln) (f : Nat) (caps : List D) (p : Ln → Bool) (hn : l.length ≤ 1000000) (hf : ∀ g ∈ l, Ev Try.prog f ([lnD g] ++ caps) (.bool (p g))) :
    Ev Try.prog 38 [.sl 2 (l.map lnD), .fn f caps] (.int .i64 (match l.findIdx? p with | some i => (i : Int) | none => -1)) := by
  have hlen : (l.map lnD).length = l.length := List.length_map _
  refine ev_of_awp tysOk mixed (fn := Try.f38) Try.func38 rfl rfl rfl ?_
  conv => whnf
  repeat' (first
    | ((with_reducible refine Split.of_true ?_); conv => whnf)
    | ((with_reducible refine Split.of_false ?_); conv => whnf)
    | ((with_reducible refine Split.neg ?_))
    | ((with_reducible refine Split.is_true ?_ ?_); decide; conv => whnf)
    | ((with_reducible refine Split.is_false ?_ ?_); decide; conv => whnf)
    | ((with_reducible refine Split.nez (fun _ => ?_) (fun _ => ?_)) <;> conv => whnf)
    | ((with_reducible refine Split.eqz (fun _ => ?_) (fun _ => ?_)) <;> conv => whnf)
    | ((with_reducible refine Split.and ?_))
    | ((with_reducible refine Split.or ?_))
    | ((with_reducible refine Split.streq (fun _ => ?_) (fun _ => ?_)) <;> conv => whnf)
    | ((with_reducible refine Split.dec (fun _ => ?_) (fun _ => ?_)) <;> conv => whnf)
    | ((with_reducible refine Split.mk (fun _ => ?_) (fun _ => ?_)) <;> conv => whnf)
    | ((with_reducible refine Need.mk ?_ ?_); (first | omega | rfl | decide | (refine ⟨?_, ?_⟩ <;> simp <;> omega) | (simp; omega)); conv => whnf)
    | ((with_reducible refine Wr.quo ?_ ?_ ?_ ?_); omega; omega; omega; conv => whnf)
    | ((with_reducible refine Wr.inr ?_ ?_); (first | omega | (simp; omega)); conv => whnf)
    | ((with_reducible refine Wr.inu ?_ ?_); omega; conv => whnf)
    | (exfalso; first | omega | contradiction))
  refine LoopK.o2 (fun i : Nat => i ≤ l.length ∧ ∀ g ∈ l.take i, p g = false) (fun i => [(8, .d (.int .i64 i))]) (fun _ => []) (fun i => l.length - i) 0 (by simp) ⟨by (repeat' (first | exact True.intro | exact rfl | refine ⟨?_, ?_⟩ | (intro h; cases h; done) | (intro h; exact h) | exact map_snoc | (refine own_congr ?_; simp; done) | (refine int_congr ?_; (first | omega | (simp; omega))) | (simp; done))), by (repeat' (first | exact True.intro | exact rfl | refine ⟨?_, ?_⟩ | (intro h; cases h; done) | (intro h; exact h) | exact map_snoc | (refine own_congr ?_; simp; done) | (refine int_congr ?_; (first | omega | (simp; omega))) | (simp; done))), rfl⟩ ?_
  rintro i ⟨hi, hp⟩
  have hn : (i : Int) < l.length → ∃ m, l[i]? = some m := fun h => some_of_lt (by omega)
  conv => whnf
  repeat' (first
    | ((with_reducible refine Split.of_true ?_); conv => whnf)
    | ((with_reducible refine Split.of_false ?_); conv => whnf)
    | ((with_reducible refine Split.neg ?_))
    | ((with_reducible refine Split.is_true ?_ ?_); decide; conv => whnf)
    | ((with_reducible refine Split.is_false ?_ ?_); decide; conv => whnf)
    | ((with_reducible refine Split.nez (fun _ => ?_) (fun _ => ?_)) <;> conv => whnf)
    | ((with_reducible refine Split.eqz (fun _ => ?_) (fun _ => ?_)) <;> conv => whnf)
    | ((with_reducible refine Split.and ?_))
    | ((with_reducible refine Split.or ?_))
    | ((with_reducible refine Split.streq (fun _ => ?_) (fun _ => ?_)) <;> conv => whnf)
    | ((with_reducible refine Split.dec (fun _ => ?_) (fun _ => ?_)) <;> conv => whnf)
    | ((with_reducible refine Split.mk (fun _ => ?_) (fun _ => ?_)) <;> conv => whnf)
    | ((with_reducible refine Need.mk ?_ ?_); (first | omega | rfl | decide | (refine ⟨?_, ?_⟩ <;> simp <;> omega) | (simp; omega)); conv => whnf)
    | ((with_reducible refine Wr.quo ?_ ?_ ?_ ?_); omega; omega; omega; conv => whnf)
    | ((with_reducible refine Wr.inr ?_ ?_); (first | omega | (simp; omega)); conv => whnf)
    | ((with_reducible refine Wr.inu ?_ ?_); omega; conv => whnf)
    | (exfalso; first | omega | contradiction))
  · obtain ⟨g, hg⟩ := hn (by omega)
    have hf := hf g (List.mem_of_getElem? hg)
    conv => whnf
    repeat' (first
      | ((refine PickE.map i hg (by omega) ?_); conv => whnf)
      | ((with_reducible refine Split.of_true ?_); conv => whnf)
      | ((with_reducible refine Split.of_false ?_); conv => whnf)
      | ((with_reducible refine Split.neg ?_))
      | ((with_reducible refine Split.is_true ?_ ?_); decide; conv => whnf)
      | ((with_reducible refine Split.is_false ?_ ?_); decide; conv => whnf)
      | ((with_reducible refine Split.nez (fun _ => ?_) (fun _ => ?_)) <;> conv => whnf)
      | ((with_reducible refine Split.eqz (fun _ => ?_) (fun _ => ?_)) <;> conv => whnf)
      | ((with_reducible refine Split.and ?_))
      | ((with_reducible refine Split.or ?_))
      | ((with_reducible refine Split.streq (fun _ => ?_) (fun _ => ?_)) <;> conv => whnf)
      | ((with_reducible refine Split.dec (fun _ => ?_) (fun _ => ?_)) <;> conv => whnf)
      | ((with_reducible refine Split.mk (fun _ => ?_) (fun _ => ?_)) <;> conv => whnf)
      | ((with_reducible refine Need.mk ?_ ?_); (first | omega | rfl | decide | (refine ⟨?_, ?_⟩ <;> simp <;> omega) | (simp; omega)); conv => whnf)
      | ((with_reducible refine Wr.quo ?_ ?_ ?_ ?_); omega; omega; omega; conv => whnf)
      | ((with_reducible refine Wr.inr ?_ ?_); (first | omega | (simp; omega)); conv => whnf)
      | ((with_reducible refine Wr.inu ?_ ?_); omega; conv => whnf)
      | (exfalso; first | omega | contradiction))
    refine CallK.mk _ hf ?_
    conv => whnf
    refine Split.mk (fun hpg => ?_) (fun hpg => ?_)
    · conv => whnf
      repeat' (first
        | ((with_reducible refine Split.of_true ?_); conv => whnf)
        | ((with_reducible refine Split.of_false ?_); conv => whnf)
        | ((with_reducible refine Split.neg ?_))
        | ((with_reducible refine Split.is_true ?_ ?_); decide; conv => whnf)
        | ((with_reducible refine Split.is_false ?_ ?_); decide; conv => whnf)
        | ((with_reducible refine Split.nez (fun _ => ?_) (fun _ => ?_)) <;> conv => whnf)
        | ((with_reducible refine Split.eqz (fun _ => ?_) (fun _ => ?_)) <;> conv => whnf)
        | ((with_reducible refine Split.and ?_))
        | ((with_reducible refine Split.or ?_))
        | ((with_reducible refine Split.streq (fun _ => ?_) (fun _ => ?_)) <;> conv => whnf)
        | ((with_reducible refine Split.dec (fun _ => ?_) (fun _ => ?_)) <;> conv => whnf)
        | ((with_reducible refine Split.mk (fun _ => ?_) (fun _ => ?_)) <;> conv => whnf)
        | ((with_reducible refine Need.mk ?_ ?_); (first | omega | rfl | decide | (refine ⟨?_, ?_⟩ <;> simp <;> omega) | (simp; omega)); conv => whnf)
        | ((with_reducible refine Wr.quo ?_ ?_ ?_ ?_); omega; omega; omega; conv => whnf)
        | ((with_reducible refine Wr.inr ?_ ?_); (first | omega | (simp; omega)); conv => whnf)
        | ((with_reducible refine Wr.inu ?_ ?_); omega; conv => whnf)
        | (exfalso; first | omega | contradiction))
      have e : l.findIdx? p = some i := by
        rw [List.findIdx?_eq_some_iff_getElem]
        refine ⟨by omega, by rw [(List.getElem?_eq_some_iff.1 hg).2]; exact hpg, fun j hj => ?_⟩
        have := hp l[j] (List.mem_take_iff_getElem.2 ⟨j, by omega, rfl⟩)
        rw [this]; decide
      rw [e]; rfl
    · conv => whnf
      conv => whnf
      repeat' (first
        | ((with_reducible refine Split.of_true ?_); conv => whnf)
        | ((with_reducible refine Split.of_false ?_); conv => whnf)
        | ((with_reducible refine Split.neg ?_))
        | ((with_reducible refine Split.is_true ?_ ?_); decide; conv => whnf)
        | ((with_reducible refine Split.is_false ?_ ?_); decide; conv => whnf)
        | ((with_reducible refine Split.nez (fun _ => ?_) (fun _ => ?_)) <;> conv => whnf)
        | ((with_reducible refine Split.eqz (fun _ => ?_) (fun _ => ?_)) <;> conv => whnf)
        | ((with_reducible refine Split.and ?_))
        | ((with_reducible refine Split.or ?_))
        | ((with_reducible refine Split.streq (fun _ => ?_) (fun _ => ?_)) <;> conv => whnf)
        | ((with_reducible refine Split.dec (fun _ => ?_) (fun _ => ?_)) <;> conv => whnf)
        | ((with_reducible refine Split.mk (fun _ => ?_) (fun _ => ?_)) <;> conv => whnf)
        | ((with_reducible refine Need.mk ?_ ?_); (first | omega | rfl | decide | (refine ⟨?_, ?_⟩ <;> simp <;> omega) | (simp; omega)); conv => whnf)
        | ((with_reducible refine Wr.quo ?_ ?_ ?_ ?_); omega; omega; omega; conv => whnf)
        | ((with_reducible refine Wr.inr ?_ ?_); (first | omega | (simp; omega)); conv => whnf)
        | ((with_reducible refine Wr.inu ?_ ?_); omega; conv => whnf)
        | (exfalso; first | omega | contradiction))
      refine Again.au (i + 1) ⟨by omega, fun x hx => ?_⟩ (by omega) ⟨by (repeat' (first | exact True.intro | exact rfl | refine ⟨?_, ?_⟩ | (intro h; cases h; done) | (intro h; exact h) | exact map_snoc | (refine own_congr ?_; simp; done) | (refine int_congr ?_; (first | omega | (simp; omega))) | (simp; done))), by (repeat' (first | exact True.intro | exact rfl | refine ⟨?_, ?_⟩ | (intro h; cases h; done) | (intro h; exact h) | exact map_snoc | (refine own_congr ?_; simp; done) | (refine int_congr ?_; (first | omega | (simp; omega))) | (simp; done))), rfl⟩
      rw [take_snoc hg] at hx
      rcases List.mem_append.1 hx with hx | hx
      · exact hp x hx
      · rw [List.mem_singleton.1 hx]; exact hpg
  · have e : l.findIdx? p = none := by
      rw [List.findIdx?_eq_none_iff]
      intro x hx
      rw [← List.take_of_length_le (show l.length ≤ i by omega)] at hx
      exact hp x hx
    rw [e]; rfl
theorem find_posL {l : List Ln} {t : Int} : l.findIdx? (fun x => decide (t ≤ x.m)) = if posL l t < l.length then some (posL l t) else none := by
  induction l with
  | nil => rfl
  | cons y r ih =>
    by_cases hy : y.m < t
    · have e : posL (y :: r) t = posL r t + 1 := by simp [posL, hy]
      have h2 : decide (t ≤ y.m) = false := by simp; omega
      rw [List.findIdx?_cons, h2]
      simp only [Bool.false_eq_true, if_false]
      rw [ih, e]
      by_cases h : posL r t < r.length
      · rw [if_pos h, if_pos (by rw [List.length_cons]; omega)]; rfl
      · rw [if_neg h, if_neg (by rw [List.length_cons]; omega)]; rfl
    · have e : posL (y :: r) t = 0 := by simp [posL, hy]
      have h2 : decide (t ≤ y.m) = true := by simp; omega
      rw [List.findIdx?_cons, h2, e, if_pos (by simp)]; rfl
theorem ev_do1 (x : Ln) (t : Int) : Ev Try.prog 39 [lnD x, .ref [iD t] 0] (.bool (decide (t ≤ x.m))) := by
  refine ev_of_awp tysOk mixed (fn := Try.f39) Try.func39 rfl rfl rfl ?_
  conv => whnf
  repeat' (first
    | ((with_reducible refine Split.of_true ?_); conv => whnf)
    | ((with_reducible refine Split.of_false ?_); conv => whnf)
    | ((with_reducible refine Split.neg ?_))
    | ((with_reducible refine Split.is_true ?_ ?_); decide; conv => whnf)
    | ((with_reducible refine Split.is_false ?_ ?_); decide; conv => whnf)
    | ((with_reducible refine Split.nez (fun _ => ?_) (fun _ => ?_)) <;> conv => whnf)
    | ((with_reducible refine Split.eqz (fun _ => ?_) (fun _ => ?_)) <;> conv => whnf)
    | ((with_reducible refine Split.and ?_))
    | ((with_reducible refine Split.or ?_))
    | ((with_reducible refine Split.streq (fun _ => ?_) (fun _ => ?_)) <;> conv => whnf)
    | ((with_reducible refine Split.dec (fun _ => ?_) (fun _ => ?_)) <;> conv => whnf)
    | ((with_reducible refine Split.mk (fun _ => ?_) (fun _ => ?_)) <;> conv => whnf)
    | ((with_reducible refine Need.mk ?_ ?_); (first | omega | rfl | decide | (refine ⟨?_, ?_⟩ <;> simp <;> omega) | (simp; omega)); conv => whnf)
    | ((with_reducible refine Wr.quo ?_ ?_ ?_ ?_); omega; omega; omega; conv => whnf)
    | ((with_reducible refine Wr.inr ?_ ?_); (first | omega | (simp; omega)); conv => whnf)
    | ((with_reducible refine Wr.inu ?_ ?_); omega; conv => whnf)
    | (exfalso; first | omega | contradiction))
  all_goals (simp [retOf] <;> omega)
theorem posL_in {l : List Ln} {t : Int} (hG : LGood l) {z : Ln} (hz : l[l.length - 1]? = some z) (ht : t ≤ z.m) : posL l t < l.length := by
  rcases Nat.lt_or_ge (posL l t) l.length with h | h
  · exact h
  · have := posL_lt (t := t) (l.length - 1) z hz (by have := hG.two; omega)
    omega
theorem ceil_div {X d : Int} (hd : 0 < d) : (X + d - 1) / d = upZ X d := by
  have h1 := Int.ediv_mul_le (-X) (Int.ne_of_gt hd)
  have h2 := Int.lt_ediv_add_one_mul_self (-X) hd
  unfold upZ
  generalize -X / d = r at *
  rw [Int.add_mul] at h2
  apply Int.le_antisymm
  · refine Int.le_of_lt_add_one ((Int.ediv_lt_iff_lt_mul hd).2 ?_)
    rw [Int.add_mul, Int.neg_mul]; omega
  · refine (Int.le_ediv_iff_mul_le hd).2 ?_
    rw [Int.neg_mul]; omega
theorem ev_draughtOf (h : Hp) (t : Int) (hG : LGood h.lines) {z : Ln} (hz : h.lines[h.lines.length - 1]? = some z) (ht : t ≤ z.m) (ht0 : 0 ≤ t) : Ev Try.prog 21 [hpD h, iD t] (iD (ladeS h.lines t)) := by
  have hlen : (h.lines.map lnD).length = h.lines.length := List.length_map _
  have hF := ev_IndexL h.lines 39 [.ref [iD t] 0] (fun x => decide (t ≤ x.m)) (by have := hG.len; omega) (fun x _ => ev_do1 x t)
  have hp := posL_in hG hz ht
  rw [find_posL, if_pos hp] at hF
  simp only at hF
  obtain ⟨b, hb⟩ := some_of_lt hp
  have hl := hG.len
  have lt := posL_lt (l := h.lines) (t := t)
  have ge := posL_ge b hb
  have kb := hG.ok b (List.mem_of_getElem? hb)
  have kz := hG.ok z (List.mem_of_getElem? hz)
  unfold ladeS
  generalize posL h.lines t = p at *
  cases p with
  | zero =>
    have e : ladeAt h.lines 0 t = b.d := by simp only [ladeAt, hb]
    rw [e]
    refine ev_of_awp tysOk mixed (fn := Try.f21) Try.func21 rfl rfl rfl ?_
    conv => whnf
    repeat' (first
      | ((refine PickE.map 0 hb (by simp) ?_); conv => whnf)
      | ((with_reducible refine Split.of_true ?_); conv => whnf)
      | ((with_reducible refine Split.of_false ?_); conv => whnf)
      | ((with_reducible refine Split.neg ?_))
      | ((with_reducible refine Split.is_true ?_ ?_); decide; conv => whnf)
      | ((with_reducible refine Split.is_false ?_ ?_); decide; conv => whnf)
      | ((with_reducible refine Split.nez (fun _ => ?_) (fun _ => ?_)) <;> conv => whnf)
      | ((with_reducible refine Split.eqz (fun _ => ?_) (fun _ => ?_)) <;> conv => whnf)
      | ((with_reducible refine Split.and ?_))
      | ((with_reducible refine Split.or ?_))
      | ((with_reducible refine Split.streq (fun _ => ?_) (fun _ => ?_)) <;> conv => whnf)
      | ((with_reducible refine Split.dec (fun _ => ?_) (fun _ => ?_)) <;> conv => whnf)
      | ((with_reducible refine Split.mk (fun _ => ?_) (fun _ => ?_)) <;> conv => whnf)
      | ((with_reducible refine Need.mk ?_ ?_); (first | omega | rfl | decide | (refine ⟨?_, ?_⟩ <;> simp <;> omega) | (simp; omega)); conv => whnf)
      | ((with_reducible refine Wr.quo ?_ ?_ ?_ ?_); omega; omega; omega; conv => whnf)
      | ((with_reducible refine Wr.inr ?_ ?_); (first | omega | (simp; omega)); conv => whnf)
      | ((with_reducible refine Wr.inu ?_ ?_); omega; conv => whnf)
      | (refine CallK.mk _ (hF) ?_; conv => whnf)
      | (exfalso; first | omega | contradiction))
    rfl
  | succ q =>
    obtain ⟨a, ha⟩ := some_of_lt (l := h.lines) (i := q) (by omega)
    have e : ladeAt h.lines (q + 1) t = a.d + upZ ((b.d - a.d) * (t - a.m)) (b.m - a.m) := by simp only [ladeAt, hb, ha]
    have ka := hG.ok a (List.mem_of_getElem? ha)
    have h1 := lt q a ha (by omega)
    have hab : a.d ≤ b.d := (List.pairwise_iff_getElem.1 hG.asc q (q+1) (by omega) hp (by omega) |>.2 |> fun h => by
      rwa [(List.getElem?_eq_some_iff.1 ha).2, (List.getElem?_eq_some_iff.1 hb).2] at h)
    have m1 := mul_bd (x := t - a.m) (y := b.d - a.d) (X := 1000000000) (Y := 5000) (by omega) (by omega)
    have m2 : 0 ≤ (t - a.m) * (b.d - a.d) := Int.mul_nonneg (by omega) (by omega)
    have hc := ceil_div (X := (t - a.m) * (b.d - a.d)) (d := b.m - a.m) (by omega)
    have hbd := ediv_bd (a := (t - a.m) * (b.d - a.d) + (b.m - a.m) - 1) (b := b.m - a.m) (M := 6000000000000) (by omega) (by omega)
    rw [e, Int.mul_comm (b.d - a.d) (t - a.m), ← hc]
    refine ev_of_awp tysOk mixed (fn := Try.f21) Try.func21 rfl rfl rfl ?_
    conv => whnf
    repeat' (first
      | ((refine PickE.map q ha (by omega) ?_); conv => whnf)
      | ((refine PickE.map (q+1) hb (by simp) ?_); conv => whnf)
      | ((with_reducible refine Split.of_true ?_); conv => whnf)
      | ((with_reducible refine Split.of_false ?_); conv => whnf)
      | ((with_reducible refine Split.neg ?_))
      | ((with_reducible refine Split.is_true ?_ ?_); decide; conv => whnf)
      | ((with_reducible refine Split.is_false ?_ ?_); decide; conv => whnf)
      | ((with_reducible refine Split.nez (fun _ => ?_) (fun _ => ?_)) <;> conv => whnf)
      | ((with_reducible refine Split.eqz (fun _ => ?_) (fun _ => ?_)) <;> conv => whnf)
      | ((with_reducible refine Split.and ?_))
      | ((with_reducible refine Split.or ?_))
      | ((with_reducible refine Split.streq (fun _ => ?_) (fun _ => ?_)) <;> conv => whnf)
      | ((with_reducible refine Split.dec (fun _ => ?_) (fun _ => ?_)) <;> conv => whnf)
      | ((with_reducible refine Split.mk (fun _ => ?_) (fun _ => ?_)) <;> conv => whnf)
      | ((with_reducible refine Need.mk ?_ ?_); (first | omega | rfl | decide | (refine ⟨?_, ?_⟩ <;> simp <;> omega) | (simp; omega)); conv => whnf)
      | ((with_reducible refine Wr.quo ?_ ?_ ?_ ?_); omega; omega; omega; conv => whnf)
      | ((with_reducible refine Wr.inr ?_ ?_); (first | omega | (simp; omega)); conv => whnf)
      | ((with_reducible refine Wr.inu ?_ ?_); omega; conv => whnf)
      | (refine CallK.mk _ (hF) ?_; conv => whnf)
      | (exfalso; first | omega | contradiction))
    rfl
theorem ev_Laden (h : Hp) (t : Int) (hG : LGood h.lines) {z : Ln} (hz : h.lines[h.lines.length - 1]? = some z) (ht : t ≤ z.m) {y : Ln} (hy : h.lines[0]? = some y) (hty : y.m ≤ t) : Ev Try.prog 25 [hpD h, iD t] (iD (ladeS h.lines t)) := by
  have hlen : (h.lines.map lnD).length = h.lines.length := List.length_map _
  have hp := posL_in hG hz ht
  obtain ⟨b, hb⟩ := some_of_lt hp
  have hl := hG.len
  have h2 := hG.two
  have lt := posL_lt (l := h.lines) (t := t)
  have ge := posL_ge b hb
  unfold ladeS
  generalize posL h.lines t = p at *
  refine ev_of_awp tysOk mixed (fn := Try.f25) Try.func25 rfl rfl rfl ?_
  conv => whnf
  repeat' (first
    | ((with_reducible refine Split.of_true ?_); conv => whnf)
    | ((with_reducible refine Split.of_false ?_); conv => whnf)
    | ((with_reducible refine Split.neg ?_))
    | ((with_reducible refine Split.is_true ?_ ?_); decide; conv => whnf)
    | ((with_reducible refine Split.is_false ?_ ?_); decide; conv => whnf)
    | ((with_reducible refine Split.nez (fun _ => ?_) (fun _ => ?_)) <;> conv => whnf)
    | ((with_reducible refine Split.eqz (fun _ => ?_) (fun _ => ?_)) <;> conv => whnf)
    | ((with_reducible refine Split.and ?_))
    | ((with_reducible refine Split.or ?_))
    | ((with_reducible refine Split.streq (fun _ => ?_) (fun _ => ?_)) <;> conv => whnf)
    | ((with_reducible refine Split.dec (fun _ => ?_) (fun _ => ?_)) <;> conv => whnf)
    | ((with_reducible refine Split.mk (fun _ => ?_) (fun _ => ?_)) <;> conv => whnf)
    | ((with_reducible refine Need.mk ?_ ?_); (first | omega | rfl | decide | (refine ⟨?_, ?_⟩ <;> simp <;> omega) | (simp; omega)); conv => whnf)
    | ((with_reducible refine Wr.quo ?_ ?_ ?_ ?_); omega; omega; omega; conv => whnf)
    | ((with_reducible refine Wr.inr ?_ ?_); (first | omega | (simp; omega)); conv => whnf)
    | ((with_reducible refine Wr.inu ?_ ?_); omega; conv => whnf)
    | (exfalso; first | omega | contradiction))
  refine LoopK.ov (fun i : Nat => 1 ≤ i ∧ i < h.lines.length ∧ (i ≤ p ∨ i = 1)) (fun i => [(5, .d (.int .i64 i))]) [] (fun _ => [])
      (fun i => h.lines.length - i) 1 ⟨by omega, by omega, .inr rfl⟩ ⟨by (repeat' (first | exact True.intro | exact rfl | refine ⟨?_, ?_⟩ | (intro h; cases h; done) | (intro h; exact h) | exact map_snoc | (refine own_congr ?_; simp; done) | (refine int_congr ?_; (first | omega | (simp; omega))) | (simp; done))), by (repeat' (first | exact True.intro | exact rfl | refine ⟨?_, ?_⟩ | (intro h; cases h; done) | (intro h; exact h) | exact map_snoc | (refine own_congr ?_; simp; done) | (refine int_congr ?_; (first | omega | (simp; omega))) | (simp; done))), rfl⟩ ?_
  rintro i ⟨hi1, hi2, hip⟩
  obtain ⟨m, hm⟩ := some_of_lt hi2
  obtain ⟨a, ha⟩ := some_of_lt (l := h.lines) (i := i - 1) (by omega)
  have km := hG.ok m (List.mem_of_getElem? hm)
  have ka := hG.ok a (List.mem_of_getElem? ha)
  have hab : a.m < m.m ∧ a.d ≤ m.d := (List.pairwise_iff_getElem.1 hG.asc (i-1) i (by omega) hi2 (by omega) |> fun h => by
      rwa [(List.getElem?_eq_some_iff.1 ha).2, (List.getElem?_eq_some_iff.1 hm).2] at h)
  have hpz : i = 1 → p = 0 → a = b := by
    rintro rfl rfl
    exact Option.some.inj (ha.symm.trans hb)
  have hpi : i = p → m = b := by
    rintro rfl
    exact Option.some.inj (hm.symm.trans hb)
  by_cases hmt : m.m < t
  · have hip' : i < p := by
      rcases Nat.lt_trichotomy i p with h1 | h1 | h1
      · exact h1
      · have := hpi h1; subst this; omega
      · have h3 : i = 1 := by omega
        have := hpz h3 (by omega); subst this; omega
    conv => whnf
    repeat' (first
      | ((refine PickE.map i hm (by omega) ?_); conv => whnf)
      | ((with_reducible refine Split.of_true ?_); conv => whnf)
      | ((with_reducible refine Split.of_false ?_); conv => whnf)
      | ((with_reducible refine Split.neg ?_))
      | ((with_reducible refine Split.is_true ?_ ?_); decide; conv => whnf)
      | ((with_reducible refine Split.is_false ?_ ?_); decide; conv => whnf)
      | ((with_reducible refine Split.nez (fun _ => ?_) (fun _ => ?_)) <;> conv => whnf)
      | ((with_reducible refine Split.eqz (fun _ => ?_) (fun _ => ?_)) <;> conv => whnf)
      | ((with_reducible refine Split.and ?_))
      | ((with_reducible refine Split.or ?_))
      | ((with_reducible refine Split.streq (fun _ => ?_) (fun _ => ?_)) <;> conv => whnf)
      | ((with_reducible refine Split.dec (fun _ => ?_) (fun _ => ?_)) <;> conv => whnf)
      | ((with_reducible refine Split.mk (fun _ => ?_) (fun _ => ?_)) <;> conv => whnf)
      | ((with_reducible refine Need.mk ?_ ?_); (first | omega | rfl | decide | (refine ⟨?_, ?_⟩ <;> simp <;> omega) | (simp; omega)); conv => whnf)
      | ((with_reducible refine Wr.quo ?_ ?_ ?_ ?_); omega; omega; omega; conv => whnf)
      | ((with_reducible refine Wr.inr ?_ ?_); (first | omega | (simp; omega)); conv => whnf)
      | ((with_reducible refine Wr.inu ?_ ?_); omega; conv => whnf)
      | (exfalso; first | omega | contradiction))
    exact Again.au (i + 1) ⟨by omega, by omega, .inl (by omega)⟩ (by omega) ⟨by (repeat' (first | exact True.intro | exact rfl | refine ⟨?_, ?_⟩ | (intro h; cases h; done) | (intro h; exact h) | exact map_snoc | (refine own_congr ?_; simp; done) | (refine int_congr ?_; (first | omega | (simp; omega))) | (simp; done))), by (repeat' (first | exact True.intro | exact rfl | refine ⟨?_, ?_⟩ | (intro h; cases h; done) | (intro h; exact h) | exact map_snoc | (refine own_congr ?_; simp; done) | (refine int_congr ?_; (first | omega | (simp; omega))) | (simp; done))), rfl⟩
  · have hat : a.m ≤ t := by
      rcases Nat.eq_zero_or_pos (i - 1) with h1 | h1
      · rw [h1] at ha
        rw [ha] at hy; cases hy; exact hty
      · have := lt (i - 1) a ha (by omega); omega
    have E : ladeAt h.lines p t = a.d + upZ ((m.d - a.d) * (t - a.m)) (m.m - a.m) := by
      by_cases hp0 : p = 0
      · have h3 : i = 1 := by omega
        have hba := hpz h3 hp0
        subst hba; subst hp0
        have e1 : t - a.m = 0 := by omega
        rw [e1, Int.mul_zero]
        have e2 : upZ 0 (m.m - a.m) = 0 := by simp [upZ]
        rw [e2]
        simp only [ladeAt, hb]; omega
      · have h3 : i = p := by
          rcases Nat.lt_trichotomy i p with h1 | h1 | h1
          · exact absurd (lt i m hm h1) hmt
          · exact h1
          · omega
        have hbm := hpi h3
        subst hbm; subst h3
        obtain ⟨q, rfl⟩ : ∃ q, i = q + 1 := ⟨i - 1, by omega⟩
        simp only [Nat.add_sub_cancel] at ha
        simp only [ladeAt, hm, ha]
    have m1 := mul_bd (x := m.d - a.d) (y := t - a.m) (X := 5000) (Y := 1000000000) (by omega) (by omega)
    have hC := ev_Ceil ((m.d - a.d) * (t - a.m)) (m.m - a.m) (by omega) (by omega)
    have hbd := ediv_bd (a := -((m.d - a.d) * (t - a.m))) (b := m.m - a.m) (M := 6000000000000) (by omega) (by omega)
    rw [E]
    unfold upZ at hC ⊢
    conv => whnf
    repeat' (first
      | ((refine PickE.map (i-1) ha (by omega) ?_); conv => whnf)
      | ((refine PickE.map i hm (by omega) ?_); conv => whnf)
      | ((with_reducible refine Split.of_true ?_); conv => whnf)
      | ((with_reducible refine Split.of_false ?_); conv => whnf)
      | ((with_reducible refine Split.neg ?_))
      | ((with_reducible refine Split.is_true ?_ ?_); decide; conv => whnf)
      | ((with_reducible refine Split.is_false ?_ ?_); decide; conv => whnf)
      | ((with_reducible refine Split.nez (fun _ => ?_) (fun _ => ?_)) <;> conv => whnf)
      | ((with_reducible refine Split.eqz (fun _ => ?_) (fun _ => ?_)) <;> conv => whnf)
      | ((with_reducible refine Split.and ?_))
      | ((with_reducible refine Split.or ?_))
      | ((with_reducible refine Split.streq (fun _ => ?_) (fun _ => ?_)) <;> conv => whnf)
      | ((with_reducible refine Split.dec (fun _ => ?_) (fun _ => ?_)) <;> conv => whnf)
      | ((with_reducible refine Split.mk (fun _ => ?_) (fun _ => ?_)) <;> conv => whnf)
      | ((with_reducible refine Need.mk ?_ ?_); (first | omega | rfl | decide | (refine ⟨?_, ?_⟩ <;> simp <;> omega) | (simp; omega)); conv => whnf)
      | ((with_reducible refine Wr.quo ?_ ?_ ?_ ?_); omega; omega; omega; conv => whnf)
      | ((with_reducible refine Wr.inr ?_ ?_); (first | omega | (simp; omega)); conv => whnf)
      | ((with_reducible refine Wr.inu ?_ ?_); omega; conv => whnf)
      | (refine CallK.mk _ (hC) ?_; conv => whnf)
      | (exfalso; first | omega | contradiction))
    rfl
end Go.Proofs.Try
