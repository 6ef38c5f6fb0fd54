/- Texts DrB DrC DrD DrE DrK DrL DrH DrM DsB LyI DsE DrO, joined; what is not needed is left out. -/
import Derived.Test.YtahnaobdihhppaaGreatMgI
import Derived.Test.YtahnaobdihhppaaGreatMgH
import Derived.Test.YtahnaobdihhppaaGreatProg
import Derived.Shelf.Lays
import Derived.Test.YtahnaobdihhppaaGreatMpa
section
namespace Go.Proofs.Tryz
open Go Go.Vm
set_option maxRecDepth 20000
theorem hasN_app {m : List (Nat × Int)} {k j : Nat} {v : Int} : hasN (m ++ [(k, v)]) j = true ↔ hasN m j = true ∨ k = j := by
 simp [hasN]
theorem getZ_old {m : List (Nat × Int)} {k j : Nat} {v : Int} (h : hasN m j = true) : getZ (m ++ [(k, v)]) j = getZ m j := by
 unfold getZ
 rw [List.find?_append]
 cases hf : m.find? (fun e => e.1 == j) with
 | none =>
  exfalso
  obtain ⟨e, he, hj⟩ := List.any_eq_true.1 h
  have := List.find?_eq_none.1 hf e he
  exact this hj
 | some e => rfl
theorem getZ_new {m : List (Nat × Int)} {k : Nat} {v : Int} (h : hasN m k = false) : getZ (m ++ [(k, v)]) k = v := by
 unfold getZ
 rw [List.find?_append]
 have : m.find? (fun e => e.1 == k) = none := by
  rw [List.find?_eq_none]
  intro e he
  have := List.any_eq_false.1 h e he
  exact this
 rw [this]; simp
theorem hasN_mem {m : List (Nat × Int)} {k : Nat} : hasN m k = true ↔ k ∈ m.map (·.1) := by
 simp [hasN]
theorem RsI.blt {acc : Nat → Nat → Bool} {P L : Nat} {vol : List Int} {fl : List (List Int)} {s : Rs} (h : RsI acc P L vol fl s) {b : Nat} (hb : hasN s.bs b = true) : b < L := by
 obtain ⟨e, he, hj⟩ := List.any_eq_true.1 hb
 have := h.bl e he
 simp at hj
 omega
section
variable {acc : Nat → Nat → Bool} {P L : Nat} {vol : List Int} {fl : List (List Int)}
theorem stO_ok {s : Rs} {p o : Nat} (h : RsI acc P L vol fl s) (hp : hasN s.ps p = true) (ho : o < L) : RsI acc P L vol fl (stO fl p s o) ∧ St9 s (stO fl p s o) ∧ (0 < cellZ fl o p → hasN (stO fl p s o).bs o = true) := by
 unfold stO
 split
 ·rename_i hk
  exact ⟨h, .rfl', fun _ => hk⟩
 rename_i hk
 have hk : hasN s.bs o = false := by simpa using hk
 split
 ·rename_i hc
  have he : St9 s ⟨s.bs ++ [(o, (p : Int))], s.ps, s.q ++ [o]⟩ := by
   refine ⟨fun _ h => ⟨h, rfl⟩, fun k hk' => ⟨hasN_app.2 (.inl hk'), getZ_old hk'⟩, ⟨[o], rfl, fun b hb => ?_⟩, by simp only [List.length_append, List.length_singleton]; omega⟩
   rcases hasN_app.1 hb with hb | hb
   ·exact .inl hb
   ·exact .inr (by simp [hb])
  refine ⟨⟨?_, fun e he' => ?_, h.pl, fun q hq => ?_, fun b hb => ?_, fun b hb => ?_, fun b hb hl => (he.eb b (h.start b hb hl)).1⟩, he, fun _ => hasN_app.2 (.inr rfl)⟩
  ·rw [List.map_append, List.nodup_append]
   refine ⟨h.bn, by simp, fun a ha b hb => ?_⟩
   simp at hb
   subst hb
   intro e
   subst e
   rw [hasN_mem.2 ha] at hk
   cases hk
  ·rcases List.mem_append.1 he' with h1 | h1
   ·exact h.bl e h1
   ·rw [List.mem_singleton.1 h1]; exact ho
  ·obtain ⟨st, h1, h2⟩ := h.pw q hq
   exact ⟨st, h1, h2.ext he⟩
  ·rcases hasN_app.1 hb with hb | hb
   ·rcases h.bw b hb with ⟨h1, h2⟩ | ⟨q, st, h1, h2, h3, h4, h5, h6⟩
    ·exact .inl ⟨(he.eb b hb).2.trans h1, h2⟩
    ·exact .inr ⟨q, st, (he.eb b hb).2.trans h1, h2, h3, h4, h5.ext he, h6⟩
   ·subst hb
    obtain ⟨st, h1, h2⟩ := h.pw p hp
    refine .inr ⟨p, st, getZ_new hk, hc, h.pl p hp, h1, h2.ext he, fun hm => ?_⟩
    obtain ⟨x, hx, hxo⟩ := List.mem_map.1 hm
    have := (h2 x hx).2.2.1
    rw [hxo, hk] at this
    cases this
  ·rcases List.mem_append.1 hb with hb | hb
   ·exact hasN_app.2 (.inl (h.qb b hb))
   ·exact hasN_app.2 (.inr (List.mem_singleton.1 hb).symm)
 ·rename_i hc
  exact ⟨h, .rfl', fun h => absurd h hc⟩
theorem foO_ok {s : Rs} {p : Nat} (h : RsI acc P L vol fl s) (hp : hasN s.ps p = true) : ∀ i, i ≤ L → RsI acc P L vol fl ((List.range i).foldl (stO fl p) s) ∧ St9 s ((List.range i).foldl (stO fl p) s) ∧ ∀ o, o < i → 0 < cellZ fl o p → hasN ((List.range i).foldl (stO fl p) s).bs o = true
 | 0, _ => ⟨h, .rfl', fun o ho => absurd ho (by omega)⟩
 | i + 1, hi => by
  obtain ⟨h1, h2, h3⟩ := foO_ok h hp i (by omega)
  rw [range_snoc]
  obtain ⟨k1, k2, k3⟩ := stO_ok (o := i) h1 (h2.ep p hp).1 (by omega)
  refine ⟨k1, h2.trans k2, fun o ho hc => ?_⟩
  by_cases e : o = i
  ·subst e; exact k3 hc
  ·exact (k2.eb o (h3 o (by omega) hc)).1
def PX (L : Nat) (fl : List (List Int)) (s : Rs) : Prop := ∀ p, hasN s.ps p = true → ∀ o, o < L → 0 < cellZ fl o p → hasN s.bs o = true
theorem stP_ok {s : Rs} {b i : Nat} (h : RsI acc P L vol fl s) (hx : PX L fl s) (hb : hasN s.bs b = true) (hi : i < P) :
 RsI acc P L vol fl (stP acc L fl b s i) ∧ St9 s (stP acc L fl b s i) ∧ PX L fl (stP acc L fl b s i) ∧ (acc i b = true → hasN (stP acc L fl b s i).ps i = true) := by
 unfold stP
 split
 ·rename_i hk
  exact ⟨h, .rfl', hx, fun _ => hk⟩
 rename_i hk
 have hk : hasN s.ps i = false := by simpa using hk
 split
 ·rename_i hc
  exact ⟨h, .rfl', hx, fun h => by rw [hc] at h; cases h⟩
 rename_i hc
 have hc : acc i b = true := by simpa using hc
 have he : St9 s ⟨s.bs, s.ps ++ [(i, (b : Int))], s.q⟩ := ⟨fun k hk' => ⟨hasN_app.2 (.inl hk'), getZ_old hk'⟩, fun _ h => ⟨h, rfl⟩, ⟨[], by simp, fun _ h => .inl h⟩, rfl⟩
 have hbL := h.blt hb
 have h1 : RsI acc P L vol fl ⟨s.bs, s.ps ++ [(i, (b : Int))], s.q⟩ := by
  refine ⟨h.bn, h.bl, fun p hp => ?_, fun p hp => ?_, fun b' hb' => ?_, h.qb, h.start⟩
  ·rcases hasN_app.1 hp with hp | hp
   ·exact h.pl p hp
   ·subst hp; exact hi
  ·rcases hasN_app.1 hp with hp | hp
   ·obtain ⟨st, k1, k2⟩ := h.pw p hp
    exact ⟨st, k1, k2.ext he⟩
   ·subst hp
    rcases h.bw b hb with ⟨k1, k2⟩ | ⟨q, st, k1, k2, k3, k4, k5, k6⟩
    ·refine ⟨[(b, i, -1)], .base hbL hi hc k2, fun x hx' => ?_⟩
     rw [List.mem_singleton.1 hx']
     exact ⟨hasN_app.2 (.inr rfl), getZ_new hk, hb, k1⟩
    ·have hni : i ∉ st.map (·.2.1) := fun hm => by
      obtain ⟨x, hx', hxi⟩ := List.mem_map.1 hm
      have := (k5 x hx').1
      rw [hxi, hk] at this
      cases this
     refine ⟨(b, i, (q : Int)) :: st, .step hbL hi hc k3 k2 k4 k6 hni, fun x hx' => ?_⟩
     rcases List.mem_cons.1 hx' with rfl | hx'
     ·exact ⟨hasN_app.2 (.inr rfl), getZ_new hk, hb, k1⟩
     ·exact (k5.ext he) x hx'
  ·rcases h.bw b' hb' with ⟨k1, k2⟩ | ⟨q, st, k1, k2, k3, k4, k5, k6⟩
   ·exact .inl ⟨k1, k2⟩
   ·exact .inr ⟨q, st, k1, k2, k3, k4, k5.ext he, k6⟩
 have hpi : hasN (⟨s.bs, s.ps ++ [(i, (b : Int))], s.q⟩ : Rs).ps i = true := hasN_app.2 (.inr rfl)
 obtain ⟨k1, k2, k3⟩ := foO_ok h1 hpi L (Nat.le_refl _)
 refine ⟨k1, he.trans k2, fun p hp o ho hcl => ?_, fun _ => (k2.ep i hpi).1⟩
 have hps : ((List.range L).foldl (stO fl i) ⟨s.bs, s.ps ++ [(i, (b : Int))], s.q⟩).ps = s.ps ++ [(i, (b : Int))] := (stO_q L (Nat.le_refl _)).2
 rw [hps] at hp
 rcases hasN_app.1 hp with hp | hp
 ·exact (k2.eb o (hx p hp o ho hcl)).1
 ·subst hp; exact k3 o ho hcl
theorem foP_ok {s : Rs} {b : Nat} (h : RsI acc P L vol fl s) (hx : PX L fl s) (hb : hasN s.bs b = true) : ∀ i, i ≤ P →
 RsI acc P L vol fl ((List.range i).foldl (stP acc L fl b) s) ∧ St9 s ((List.range i).foldl (stP acc L fl b) s) ∧ PX L fl ((List.range i).foldl (stP acc L fl b) s) ∧ ∀ p, p < i → acc p b = true → hasN ((List.range i).foldl (stP acc L fl b) s).ps p = true
 | 0, _ => ⟨h, .rfl', hx, fun o ho => absurd ho (by omega)⟩
 | i + 1, hi => by
  obtain ⟨h1, h2, h3, h4⟩ := foP_ok h hx hb i (by omega)
  rw [range_snoc]
  obtain ⟨k1, k2, k3, k4⟩ := stP_ok (i := i) h1 h3 (h2.eb b hb).1 (by omega)
  refine ⟨k1, h2.trans k2, k3, fun p hp hc => ?_⟩
  by_cases e : p = i
  ·subst e; exact k4 hc
  ·exact (k2.ep p (h4 p (by omega) hc)).1
def PR (acc : Nat → Nat → Bool) (P : Nat) (s : Rs) : Prop := ∀ b, hasN s.bs b = true → b ∈ s.q ∨ ∀ p, p < P → acc p b = true → hasN s.ps p = true
theorem rsGo_ok : ∀ {n : Nat} {s : Rs}, RsI acc P L vol fl s → PX L fl s → PR acc P s → s.q.length + L ≤ n + s.bs.length → ∃ w, rsGo acc P L fl n s = some w ∧ RsI acc P L vol fl w ∧ PX L fl w ∧ ∀ b, hasN w.bs b = true → ∀ p, p < P → acc p b = true → hasN w.ps p = true
 | 0, s, h, hx, hr, hn => by
  have := h.len
  have hq : s.q = [] := List.length_eq_zero_iff.1 (by omega)
  refine ⟨s, by rw [rsGo, if_pos hq], h, hx, fun b hb => ?_⟩
  rcases hr b hb with h1 | h1
  ·rw [hq] at h1; cases h1
  ·exact h1
 | n + 1, s, h, hx, hr, hn => by
  cases hq : s.q with
  | nil =>
   refine ⟨s, by rw [rsGo, hq], h, hx, fun b hb => ?_⟩
   rcases hr b hb with h1 | h1
   ·rw [hq] at h1; cases h1
   ·exact h1
  | cons b r =>
   have hb := h.qb b (by rw [hq]; simp)
   obtain ⟨k1, k2, k3, k4⟩ := foP_ok h hx hb P (Nat.le_refl _)
   have he : rsGo acc P L fl (n + 1) s = rsGo acc P L fl n ⟨((List.range P).foldl (stP acc L fl b) s).bs, ((List.range P).foldl (stP acc L fl b) s).ps, ((List.range P).foldl (stP acc L fl b) s).q.tail⟩ := by
    rw [rsGo, hq]
   rw [he]
   generalize (List.range P).foldl (stP acc L fl b) s = u at *
   obtain ⟨t, ht, hnew⟩ := k2.q
   have hcnt := k2.cnt
   rw [hq] at ht
   have htl : u.q.tail = r ++ t := by rw [ht]; rfl
   have hul : u.q.length = r.length + t.length + 1 := by rw [ht]; simp
   have hsl : s.q.length = r.length + 1 := by rw [hq]; simp
   refine rsGo_ok (s := ⟨u.bs, u.ps, u.q.tail⟩) ⟨k1.bn, k1.bl, k1.pl, k1.pw, k1.bw, fun b' hb' => k1.qb b' (List.mem_of_mem_tail hb'), k1.start⟩ k3 (fun b' hb' => ?_) ?_
   ·rcases hnew b' hb' with h1 | h1
    ·rcases hr b' h1 with h2 | h2
     ·rw [hq] at h2
      rcases List.mem_cons.1 h2 with rfl | h2
      ·exact .inr fun p hp hc => k4 p hp hc
      ·exact .inl (by show b' ∈ u.q.tail; rw [htl]; exact List.mem_append_left _ h2)
     ·exact .inr fun p hp hc => (k2.ep p (h2 p hp hc)).1
    ·exact .inl (by show b' ∈ u.q.tail; rw [htl]; exact List.mem_append_right _ h1)
   ·show u.q.tail.length + L ≤ n + u.bs.length
    rw [htl, List.length_append]; omega
theorem rs0_ok : RsI acc P L vol fl (rs0 L vol fl) ∧ PX L fl (rs0 L vol fl) ∧ PR acc P (rs0 L vol fl) ∧ (rs0 L vol fl).q.length = (rs0 L vol fl).bs.length := by
 have key : ∀ i, i ≤ L → (((List.range i).foldl (st1 vol fl) ⟨[], [], []⟩).bs.map (·.1)).Nodup ∧ (∀ e ∈ ((List.range i).foldl (st1 vol fl) ⟨[], [], []⟩).bs, e.1 < i ∧ e.2 = -1 ∧ 0 < leftF vol fl e.1) ∧ ((List.range i).foldl (st1 vol fl) ⟨[], [], []⟩).ps = [] ∧
  (((List.range i).foldl (st1 vol fl) ⟨[], [], []⟩).q = ((List.range i).foldl (st1 vol fl) ⟨[], [], []⟩).bs.map (·.1)) ∧ ∀ b, b < i → 0 < leftF vol fl b → hasN ((List.range i).foldl (st1 vol fl) ⟨[], [], []⟩).bs b = true := by
  intro i
  induction i with
  | zero => intro _; simp
  | succ i ih =>
   intro hi
   obtain ⟨h1, h2, h3, h4, h5⟩ := ih (by omega)
   rw [range_snoc, st1]
   split
   ·rename_i hl
    refine ⟨?_, fun e he => ?_, h3, by rw [List.map_append, h4]; rfl, fun b hb hlb => ?_⟩
    ·rw [List.map_append, List.nodup_append]
     refine ⟨h1, by simp, fun a ha b hb => ?_⟩
     simp at hb
     obtain ⟨e, he, rfl⟩ := List.mem_map.1 ha
     have := (h2 e he).1
     omega
    ·rcases List.mem_append.1 he with he | he
     ·have := h2 e he; exact ⟨by omega, this.2⟩
     ·rw [List.mem_singleton.1 he]; exact ⟨by omega, rfl, hl⟩
    ·by_cases e : b = i
     ·subst e; exact hasN_app.2 (.inr rfl)
     ·exact hasN_app.2 (.inl (h5 b (by omega) hlb))
   ·rename_i hl
    refine ⟨h1, fun e he => ?_, h3, h4, fun b hb hlb => ?_⟩
    ·have := h2 e he; exact ⟨by omega, this.2⟩
    ·by_cases e : b = i
     ·subst e; exact absurd hlb hl
     ·exact h5 b (by omega) hlb
 obtain ⟨h1, h2, h3, h4, h5⟩ := key L (Nat.le_refl _)
 have hr0 : (List.range L).foldl (st1 vol fl) ⟨[], [], []⟩ = rs0 L vol fl := rfl
 rw [hr0] at h1 h2 h3 h4 h5
 generalize rs0 L vol fl = s at *
 have hno : ∀ p, ¬ hasN s.ps p = true := fun p hp => by rw [h3] at hp; simp [hasN] at hp
 refine ⟨⟨h1, fun e he => (h2 e he).1, fun p hp => absurd hp (hno p), fun p hp => absurd hp (hno p), fun b hb => .inl ?_, fun b hb => ?_, h5⟩, fun p hp => absurd hp (hno p), fun b hb => .inl ?_, by rw [h4, List.length_map]⟩
 ·obtain ⟨e, he, hj⟩ := List.any_eq_true.1 hb
  have hj : e.1 = b := by simpa using hj
  refine ⟨?_, by rw [← hj]; exact (h2 e he).2.2⟩
  unfold getZ
  cases hf : s.bs.find? (fun e => e.1 == b) with
  | none => exact absurd (by simpa using hj) (List.find?_eq_none.1 hf e he)
  | some e' => exact (h2 e' (List.mem_of_find?_eq_some hf)).2.1
 ·rw [h4] at hb; exact hasN_mem.2 hb
 ·rw [h4]; exact hasN_mem.1 hb
theorem reach_ok {n : Nat} (hn : L ≤ n) : ∃ w, reachF acc P L n vol fl = some w ∧ RsI acc P L vol fl w ∧ PX L fl w ∧ ∀ b, hasN w.bs b = true → ∀ p, p < P → acc p b = true → hasN w.ps p = true := by
 obtain ⟨h1, h2, h3, h4⟩ := rs0_ok (acc := acc) (P := P) (L := L) (vol := vol) (fl := fl)
 exact rsGo_ok h1 h2 h3 (by omega)
end
end Go.Proofs.Tryz
end

section
namespace Go.Proofs.Tryz
open Go Go.Vm
set_option maxRecDepth 20000
section
variable {acc : Nat → Nat → Bool} {P L : Nat} {vol room : List Int} {fl : List (List Int)}
def fitW (vol : List Int) (fl : List (List Int)) (x : Nat × Nat × Int) : Int := if x.2.2 < 0 then leftF vol fl x.1 else cellZ fl x.1 x.2.2.toNat
def minW (vol : List Int) (fl : List (List Int)) (a : Int) : List (Nat × Nat × Int) → Int
 | [] => a
 | x :: r => minW vol fl (minI a (fitW vol fl x)) r
theorem minI_le {a b : Int} : minI a b ≤ a ∧ minI a b ≤ b := by unfold minI; split <;> omega
theorem minI_pos {a b : Int} (ha : 0 < a) (hb : 0 < b) : 0 < minI a b := by unfold minI; split <;> omega
theorem minW_le : ∀ {st : List (Nat × Nat × Int)} {a : Int}, minW vol fl a st ≤ a
 | [], _ => Int.le_refl _
 | _ :: r, _ => Int.le_trans (minW_le (st := r)) minI_le.1
theorem minW_fit : ∀ {st : List (Nat × Nat × Int)} {a : Int}, ∀ x ∈ st, minW vol fl a st ≤ fitW vol fl x
 | _ :: _, _, _, hx => by
  rw [minW]
  rcases List.mem_cons.1 hx with rfl | hx
  ·exact Int.le_trans minW_le minI_le.2
  ·exact minW_fit _ hx
theorem minW_pos : ∀ {st : List (Nat × Nat × Int)} {a : Int}, 0 < a → (∀ x ∈ st, 0 < fitW vol fl x) → 0 < minW vol fl a st
 | [], _, ha, _ => ha
 | x :: _, _, ha, h => by
  rw [minW]
  exact minW_pos (minI_pos ha (h x List.mem_cons_self)) fun z hz => h z (List.mem_cons_of_mem _ hz)
theorem Way.fit {p : Nat} {st : List (Nat × Nat × Int)} (h : Way acc P L vol fl p st) : ∀ x ∈ st, 0 < fitW vol fl x := by
 induction h with
 | base hb hp ha hl =>
  intro x hx
  rw [List.mem_singleton.1 hx, fitW, if_pos (show (-1 : Int) < 0 by decide)]; exact hl
 | step hb hp ha hq hc h h1 h2 ih =>
  intro x hx
  rcases List.mem_cons.1 hx with rfl | hx
  ·rw [fitW, if_neg (by simp)]; simpa using hc
  ·exact ih x hx
theorem fits_min {st : List (Nat × Nat × Int)} {a : Int} : Fits vol fl (minW vol fl a st) st := fun x hx => by
 have := minW_fit (vol := vol) (fl := fl) (a := a) x hx
 unfold fitW at this
 constructor
 ·intro h; rwa [if_pos h] at this
 ·intro h; rwa [if_neg (by omega)] at this
theorem path_way {w : Rs} {p : Nat} {st : List (Nat × Nat × Int)} (h : Way acc P L vol fl p st) : InW w st → ∀ {n : Nat} {a : Int}, st.length ≤ n → pathF P L vol fl w n p a = some (st.map cvW, minW vol fl a st) := by
 induction h with
 | base hb hp ha hl =>
  rename_i b p
  intro hw n a hn
  obtain ⟨w1, w2, w3, w4⟩ := hw _ List.mem_cons_self
  simp only at w1 w2 w3 w4
  cases n with
  | zero => simp at hn
  | succ n =>
   rw [pathF, w2, Int.toNat_natCast, w4, if_pos ⟨w1, by omega, by omega, w3, by omega⟩, if_pos (by decide)]
   simp [cvW, minW, fitW]
 | step hb hp ha hq hc h h1 h2 ih =>
  rename_i b p q st
  intro hw n a hn
  obtain ⟨w1, w2, w3, w4⟩ := hw _ List.mem_cons_self
  simp only at w1 w2 w3 w4
  cases n with
  | zero => simp at hn
  | succ n =>
   rw [pathF, w2, Int.toNat_natCast, w4, if_pos ⟨w1, by omega, by omega, w3, by omega⟩, if_neg (by omega), Int.toNat_natCast,
    ih (fun x hx => hw x (List.mem_cons_of_mem _ hx)) (by simpa using hn)]
   have hq0 : ¬ ((q : Int) < 0) := by omega
   simp [cvW, minW, fitW, hq0]
def Shut (acc : Nat → Nat → Bool) (P L : Nat) (vol room : List Int) (fl : List (List Int)) (p : Nat) : Prop := (¬ ∃ st, Way acc P L vol fl p st) ∨ freeF room fl p = 0
theorem way_reached {w : Rs} (hw : RsI acc P L vol fl w) (hx : PX L fl w) (hr : ∀ b, hasN w.bs b = true → ∀ p, p < P → acc p b = true → hasN w.ps p = true) {p : Nat} {st : List (Nat × Nat × Int)} (h : Way acc P L vol fl p st) : hasN w.ps p = true := by
 induction h with
 | base hb hp ha hl => exact hr _ (hw.start _ hb hl) _ hp ha
 | step hb hp ha hq hc h h1 h2 ih => exact hr _ (hx _ ih _ hb hc) _ hp ha
theorem rch_no {w : Rs} (hI : RsI acc P L vol fl w) (hX : PX L fl w) (hR : ∀ b, hasN w.bs b = true → ∀ p, p < P → acc p b = true → hasN w.ps p = true) {q : Nat} (hq : ¬ ∃ st, Way acc P L vol fl q st) {p : Nat} (h : Rch acc P L fl p q) : ¬ hasN w.ps p = true := by
 induction h with
 | refl p =>
  intro hp
  obtain ⟨st, h1, -⟩ := hI.pw p hp
  exact hq ⟨st, h1⟩
 | step hb hc hp ha h ih => exact fun hps => ih hq (hR _ (hX _ hps _ hb hc) _ hp ha)
theorem push_ok (h : FlOk acc P L vol room fl) (hv : ∀ b, vol.getD b 0 ≤ 100000000000000000) {n : Nat} (hn : L ≤ n) (hnP : P ≤ n) {pit : Nat} (hp : pit < P) :
 (pushF acc P L n vol room fl pit = some none ∧ Shut acc P L vol room fl pit) ∨
 ∃ fl' a b, pushF acc P L n vol room fl pit = some (some fl') ∧ 0 < a ∧ a ≤ freeF room fl pit ∧ b < L ∧ FlOk acc P L vol room fl' ∧ (∀ b', leftF vol fl' b' = leftF vol fl b' - if b = b' then a else 0) ∧ (∀ q, freeF room fl' q = freeF room fl q - if pit = q then a else 0) ∧
  (∀ q, q ≠ pit → Shut acc P L vol room fl q → Shut acc P L vol room fl' q) ∧ Keep acc P L vol fl fl' := by
 obtain ⟨w, hw, hI, hX, hR⟩ := reach_ok (acc := acc) (P := P) (vol := vol) (fl := fl) hn
 unfold pushF
 rw [hw]
 simp only
 by_cases hc : hasN w.ps pit = false ∨ freeF room fl pit = 0
 ·rw [if_pos hc]
  refine .inl ⟨rfl, ?_⟩
  rcases hc with hc | hc
  ·refine .inl fun ⟨st, hst⟩ => ?_
   rw [way_reached hI hX hR hst] at hc
   cases hc
  ·exact .inr hc
 rw [if_neg hc]
 rw [not_or] at hc
 have hpr : hasN w.ps pit = true := by simpa using hc.1
 obtain ⟨st, hst, hin⟩ := hI.pw pit hpr
 have hlen := hst.len.1
 rw [path_way hst hin (by omega)]
 simp only
 have hfr := h.fr pit hp
 have ha0 : 0 < minW vol fl (freeF room fl pit) st := minW_pos (by omega) hst.fit
 have hle : minW vol fl (freeF room fl pit) st ≤ freeF room fl pit := minW_le
 have hft : Fits vol fl (minW vol fl (freeF room fl pit) st) st := fits_min
 generalize minW vol fl (freeF room fl pit) st = a at *
 obtain ⟨fl', r1, r2, r3, r4, r5, r6, r7, r8⟩ := ap_way (room := room) hv ha0 hst hft h.dim h.nn h.ac h.lf
 rw [r1]
 simp only
 have hsrc := hst.src
 have hfs : a ≤ leftF vol fl (srcW st) := by
  clear r1 r2 r3 r4 r5 r6 r7 r8 hsrc hin hle hlen
  induction hst with
  | base hb hp ha hl => exact (hft _ List.mem_cons_self).1 (show (-1 : Int) < 0 by decide)
  | step hb hp ha hq hcl hs h1 h2 ih =>
   rw [srcW_cons hs.ne]
   have hqr := way_reached hI hX hR hs
   have hfl : Fits vol fl a _ := fun x hx => hft x (List.mem_cons_of_mem _ hx)
   clear ih
   have key : ∀ {q : Nat} {st : List (Nat × Nat × Int)}, Way acc P L vol fl q st → Fits vol fl a st → a ≤ leftF vol fl (srcW st) := by
    intro q st hs
    induction hs with
    | base hb hp ha hl => exact fun hf => (hf _ List.mem_cons_self).1 (show (-1 : Int) < 0 by decide)
    | step hb hp ha hq hcl hs h1 h2 ih =>
     intro hf
     rw [srcW_cons hs.ne]
     exact ih fun x hx => hf x (List.mem_cons_of_mem _ hx)
   exact key hs hfl
 have noWay : ∀ q, (¬ ∃ st, Way acc P L vol fl q st) → ¬ ∃ st, Way acc P L vol fl' q st := fun q hs ⟨st', hst'⟩ => hs (by
  have hreach : hasN w.ps q = true := by
   clear hs
   induction hst' with
   | base hb hp ha hl =>
    refine hR _ (hI.start _ hb ?_) _ hp ha
    rw [r5] at hl
    split at hl <;> omega
   | @step b p q' st'' hb hp ha hq hcl h' h1 h2 ih =>
    refine hR _ ?_ _ hp ha
    by_cases hm : b ∈ st.map (·.1)
    ·obtain ⟨x, hx, rfl⟩ := List.mem_map.1 hm
     exact (hin x hx).2.2.1
    ·rw [r7 b hm] at hcl
     exact hX _ (ih ⟨_, h'⟩) _ hb hcl
  obtain ⟨st2, h2, -⟩ := hI.pw q hreach
  exact ⟨st2, h2⟩)
 refine .inr ⟨fl', a, srcW st, rfl, ha0, hle, hsrc.1, ⟨r2, r3, r4, fun b hb => ?_, fun p' hp' => ?_⟩, r5, r6, fun q hq hs => ?_, fun q hq => ⟨noWay q hq, fun p hp => ?_⟩⟩
 ·rw [r5]
  split
  ·rename_i e; rw [← e]; omega
  ·have := h.lf b hb; omega
 ·rw [r6]
  split
  ·rename_i e; rw [← e]; omega
  ·have := h.fr p' hp'; omega
 ·rcases hs with hs | hs
  ·exact .inl (noWay q hs)
  ·refine .inr ?_
   rw [r6, if_neg (fun e => hq e.symm), hs]; rfl
 ·induction hp with
  | refl p => exact .refl p
  | @step b p p' q' hb hc hp' ha h ih =>
   have ih := ih hq
   by_cases hm : b ∈ st.map (·.1)
   ·obtain ⟨x, hx, rfl⟩ := List.mem_map.1 hm
    exact absurd (hR _ (hin x hx).2.2.1 _ hp' ha) (rch_no hI hX hR hq ih)
   ·rw [r7 b hm] at hc
    exact .step hb hc hp' ha ih
def totL (vol : List Int) (fl : List (List Int)) : Nat → Int
 | 0 => 0
 | n + 1 => totL vol fl n + leftF vol fl n
theorem totL_nn (h : ∀ b, b < L → 0 ≤ leftF vol fl b) : ∀ n, n ≤ L → 0 ≤ totL vol fl n
 | 0, _ => Int.le_refl _
 | n + 1, hn => by
  have h1 := totL_nn h n (by omega)
  have h2 := h n (by omega)
  rw [totL]; omega
theorem totL_sub {fl' : List (List Int)} {a : Int} {b : Nat} (h : ∀ b', leftF vol fl' b' = leftF vol fl b' - if b = b' then a else 0) : ∀ n, totL vol fl' n = totL vol fl n - if b < n then a else 0
 | 0 => by simp [totL]
 | n + 1 => by
  rw [totL, totL, totL_sub h n, h n]
  by_cases h1 : b < n
  ·rw [if_pos h1, if_neg (by omega), if_pos (by omega)]; omega
  ·by_cases h2 : b = n
   ·rw [if_neg h1, if_pos h2, if_pos (by omega)]; omega
   ·rw [if_neg h1, if_neg h2, if_neg (by omega)]; omega
theorem fill_run (hv : ∀ b, vol.getD b 0 ≤ 100000000000000000) {n : Nat} (hn : L ≤ n) (hnP : P ≤ n) {pit : Nat} (hp : pit < P) : ∀ (m : Nat) {fl : List (List Int)}, FlOk acc P L vol room fl → totL vol fl L ≤ m →
 ∃ fl', (∃ k, ∀ j, k ≤ j → fillF acc P L n vol room pit j fl = some fl') ∧ FlOk acc P L vol room fl' ∧ Shut acc P L vol room fl' pit ∧ (∀ q, q ≠ pit → freeF room fl' q = freeF room fl q ∧ (Shut acc P L vol room fl q → Shut acc P L vol room fl' q)) ∧ (∀ b, leftF vol fl' b ≤ leftF vol fl b) ∧ Keep acc P L vol fl fl' := by
 intro m
 induction m with
 | zero =>
  intro fl h hm
  rcases push_ok h hv hn hnP hp with ⟨h1, h2⟩ | ⟨fl', a, b, h1, ha, -, hb, h3, h4, -, -⟩
  ·refine ⟨fl, ⟨1, fun j hj => ?_⟩, h, h2, fun q _ => ⟨rfl, id⟩, fun b => Int.le_refl _, .rfl'⟩
   cases j with
   | zero => omega
   | succ j => rw [fillF, h1]
  ·exfalso
   have e1 := totL_sub h4 L
   have e2 := totL_nn h3.lf L (Nat.le_refl _)
   rw [if_pos hb] at e1
   omega
 | succ m ih =>
  intro fl h hm
  rcases push_ok h hv hn hnP hp with ⟨h1, h2⟩ | ⟨fl', a, b, h1, ha, -, hb, h3, h4, h5, h6, h7⟩
  ·refine ⟨fl, ⟨1, fun j hj => ?_⟩, h, h2, fun q _ => ⟨rfl, id⟩, fun b => Int.le_refl _, .rfl'⟩
   cases j with
   | zero => omega
   | succ j => rw [fillF, h1]
  ·have e1 := totL_sub h4 L
   rw [if_pos hb] at e1
   obtain ⟨fl2, ⟨k, hk⟩, g1, g2, g3, g4, g5⟩ := ih h3 (by omega)
   refine ⟨fl2, ⟨k + 1, fun j hj => ?_⟩, g1, g2, fun q hq => ⟨?_, fun hs => (g3 q hq).2 (h6 q hq hs)⟩, fun b' => ?_, h7.trans g5⟩
   ·cases j with
    | zero => omega
    | succ j => rw [fillF, h1]; exact hk j (by omega)
   ·rw [(g3 q hq).1, h5, if_neg (fun e => hq e.symm)]; omega
   ·have := g4 b'
    rw [h4] at this
    split at this <;> omega
end
end Go.Proofs.Tryz
end

section
namespace Go.Proofs.Tryz
open Go Go.Vm
set_option maxRecDepth 20000
def sumN : Nat → (Nat → Int) → Int
 | 0, _ => 0
 | n + 1, f => sumN n f + f n
theorem sumN_congr {f g : Nat → Int} : ∀ {n : Nat}, (∀ i, i < n → f i = g i) → sumN n f = sumN n g
 | 0, _ => rfl
 | n + 1, h => by rw [sumN, sumN, sumN_congr (n := n) (fun i hi => h i (by omega)), h n (by omega)]
theorem sumN_add {f g : Nat → Int} : ∀ {n : Nat}, sumN n (fun i => f i + g i) = sumN n f + sumN n g
 | 0 => rfl
 | n + 1 => by rw [sumN, sumN, sumN, sumN_add]; omega
theorem sumN_sub {f g : Nat → Int} : ∀ {n : Nat}, sumN n (fun i => f i - g i) = sumN n f - sumN n g
 | 0 => rfl
 | n + 1 => by rw [sumN, sumN, sumN, sumN_sub]; omega
theorem sumN_le {f g : Nat → Int} : ∀ {n : Nat}, (∀ i, i < n → f i ≤ g i) → sumN n f ≤ sumN n g
 | 0, _ => Int.le_refl _
 | n + 1, h => by
  have h1 := sumN_le (n := n) fun i hi => h i (by omega)
  have h2 := h n (by omega)
  rw [sumN, sumN]; omega
theorem sumN_zero : ∀ {n : Nat}, sumN n (fun _ => 0) = 0
 | 0 => rfl
 | n + 1 => by rw [sumN, sumN_zero]; rfl
theorem sumN_nn {f : Nat → Int} {n : Nat} (h : ∀ i, i < n → 0 ≤ f i) : 0 ≤ sumN n f := by
 have := sumN_le (f := fun _ => 0) (g := f) h
 rw [sumN_zero] at this; exact this
theorem sumN_swap {f : Nat → Nat → Int} {m : Nat} : ∀ {n : Nat}, sumN n (fun i => sumN m (f i)) = sumN m (fun j => sumN n fun i => f i j)
 | 0 => by simp only [sumN]; rw [sumN_zero]
 | n + 1 => by
  rw [sumN, sumN_swap, ← sumN_add]
  rfl
theorem sumN_ite {f : Nat → Int} {c : Bool} {n : Nat} : sumN n (fun i => if c = true then f i else 0) = if c = true then sumN n f else 0 := by
 cases c with
 | true => rfl
 | false => exact sumN_zero
theorem sumN_one {f : Nat → Int} {n i : Nat} (h : ∀ i, i < n → 0 ≤ f i) (hi : i < n) : f i ≤ sumN n f := by
 induction n with
 | zero => omega
 | succ n ih =>
  rw [sumN]
  have hn := h n (by omega)
  by_cases e : i = n
  ·subst e
   have := sumN_nn (f := f) (n := i) fun j hj => h j (by omega)
   omega
  ·have := ih (fun j hj => h j (by omega)) (by omega)
   omega
theorem sum_sumN : ∀ (l : List Int), l.sum = sumN l.length fun i => l.getD i 0 := by
 intro l
 rw [← List.reverse_reverse l]
 induction l.reverse with
 | nil => rfl
 | cons x r ih =>
  rw [List.reverse_cons, List.sum_append, List.length_append, ih]
  simp only [List.length_singleton, sumN, List.sum_cons, List.sum_nil]
  have e1 : sumN r.reverse.length (fun i => r.reverse.getD i 0) = sumN r.reverse.length (fun i => (r.reverse ++ [x]).getD i 0) := sumN_congr fun i hi => by
   rw [List.getD_eq_getElem?_getD, List.getD_eq_getElem?_getD, List.getElem?_append_left hi]
  have e2 : (r.reverse ++ [x]).getD r.reverse.length 0 = x := by simp [List.getD_eq_getElem?_getD]
  rw [e1, e2]; omega
section
variable {acc : Nat → Nat → Bool} {P L : Nat} {vol room : List Int} {fl : List (List Int)}
theorem left_sum (hd : Dim P L fl) {b : Nat} (hb : b < L) : leftF vol fl b = vol.getD b 0 - sumN P (cellZ fl b) := by
 unfold leftF
 rw [sum_sumN, hd.rowD hb]; rfl
theorem free_sum (hd : Dim P L fl) {p : Nat} : freeF room fl p = room.getD p 0 - sumN L fun b => cellZ fl b p := by
 unfold freeF
 rw [sum_sumN, List.length_map, hd.len]
 congr 1
 refine sumN_congr fun b hb => ?_
 unfold cellZ
 simp only [List.getD_eq_getElem?_getD, List.getElem?_map]
 cases fl[b]? <;> simp
def openB (acc : Nat → Nat → Bool) (L : Nat) (A : Nat → Bool) (p : Nat) : Bool := (List.range L).any fun b => A b && acc p b
def needS (L : Nat) (vol : List Int) (A : Nat → Bool) : Int := sumN L fun b => if A b = true then vol.getD b 0 else 0
def haveS (acc : Nat → Nat → Bool) (P L : Nat) (room : List Int) (A : Nat → Bool) : Int := sumN P fun p => if openB acc L A p = true then room.getD p 0 else 0
def restS (L : Nat) (vol : List Int) (fl : List (List Int)) (A : Nat → Bool) : Int := sumN L fun b => if A b = true then leftF vol fl b else 0
theorem open_of {A : Nat → Bool} {p b : Nat} (hb : b < L) (hA : A b = true) (ha : acc p b = true) : openB acc L A p = true :=
 List.any_eq_true.2 ⟨b, List.mem_range.2 hb, by rw [hA, ha]; rfl⟩
theorem out_sum (h : FlOk acc P L vol room fl) (A : Nat → Bool) : needS L vol A - restS L vol fl A = sumN P fun p => if openB acc L A p = true then sumN L (fun b => if A b = true then cellZ fl b p else 0) else 0 := by
 have e1 : needS L vol A - restS L vol fl A = sumN L fun b => sumN P fun p => if A b = true then cellZ fl b p else 0 := by
  rw [needS, restS, ← sumN_sub]
  refine sumN_congr fun b hb => ?_
  rw [sumN_ite]
  cases A b with
  | true => simp only [if_true]; rw [left_sum h.dim hb]; omega
  | false => rfl
 rw [e1, sumN_swap]
 refine sumN_congr fun p _ => ?_
 cases ho : openB acc L A p with
 | true => rfl
 | false =>
  rw [if_neg (by decide)]
  refine (sumN_congr fun b hb => ?_).trans sumN_zero
  cases hA : A b with
  | false => rfl
  | true =>
   rw [if_pos rfl]
   have := h.nn b p
   by_cases hc : 0 < cellZ fl b p
   ·rw [open_of hb hA (h.ac b p hc)] at ho; cases ho
   ·omega
theorem cut_weak (h : FlOk acc P L vol room fl) (A : Nat → Bool) : needS L vol A - restS L vol fl A ≤ haveS acc P L room A := by
 rw [out_sum h A, haveS]
 refine sumN_le fun p hp => ?_
 split
 ·have h1 := h.fr p hp
  rw [free_sum h.dim] at h1
  have h2 : sumN L (fun b => if A b = true then cellZ fl b p else 0) ≤ sumN L fun b => cellZ fl b p := sumN_le fun b _ => by
   have := h.nn b p
   split <;> omega
  omega
 ·exact Int.le_refl _
theorem cut_strong (h : FlOk acc P L vol room fl) (hs : ∀ p, p < P → Shut acc P L vol room fl p) {w : Rs} (hI : RsI acc P L vol fl w) (hX : PX L fl w) (hR : ∀ b, hasN w.bs b = true → ∀ p, p < P → acc p b = true → hasN w.ps p = true) :
 needS L vol (hasN w.bs) - restS L vol fl (hasN w.bs) = haveS acc P L room (hasN w.bs) := by
 rw [out_sum h, haveS]
 refine sumN_congr fun p hp => ?_
 cases ho : openB acc L (hasN w.bs) p with
 | false => rfl
 | true =>
  rw [if_pos rfl, if_pos rfl]
  obtain ⟨b, hb, hab⟩ := List.any_eq_true.1 ho
  rw [Bool.and_eq_true] at hab
  have hps := hR b hab.1 p hp hab.2
  obtain ⟨st, hst, -⟩ := hI.pw p hps
  have hfr : freeF room fl p = 0 := by
   rcases hs p hp with h1 | h1
   ·exact absurd ⟨st, hst⟩ h1
   ·exact h1
  rw [free_sum h.dim] at hfr
  have : sumN L (fun b => if hasN w.bs b = true then cellZ fl b p else 0) = sumN L fun b => cellZ fl b p := sumN_congr fun b hb => by
   cases hA : hasN w.bs b with
   | true => rfl
   | false =>
    rw [if_neg (by decide)]
    have h0 := h.nn b p
    by_cases hc : 0 < cellZ fl b p
    ·rw [hX p hps b hb hc] at hA; cases hA
    ·omega
  omega
theorem rest_pos (h : FlOk acc P L vol room fl) {A : Nat → Bool} {b : Nat} (hb : b < L) (hA : A b = true) (hl : 0 < leftF vol fl b) : 0 < restS L vol fl A := by
 have := sumN_one (f := fun b => if A b = true then leftF vol fl b else 0) (n := L) (i := b) (fun i hi => by have := h.lf i hi; split <;> omega) hb
 rw [hA, if_pos rfl] at this
 unfold restS; omega
theorem fills_run (hv : ∀ b, vol.getD b 0 ≤ 100000000000000000) {n : Nat} (hn : L ≤ n) (hnP : P ≤ n) : ∀ {s : List Nat} {fl : List (List Int)}, (∀ p ∈ s, p < P) → FlOk acc P L vol room fl →
 ∃ fl', (∃ k, ∀ j, k ≤ j → fillsF acc P L n j vol room s fl = some fl') ∧ FlOk acc P L vol room fl' ∧ (∀ q, q ∈ s ∨ Shut acc P L vol room fl q → Shut acc P L vol room fl' q) ∧ (∀ q, q ∉ s → freeF room fl' q = freeF room fl q) ∧ (∀ b, leftF vol fl' b ≤ leftF vol fl b) ∧ Keep acc P L vol fl fl'
 | [], fl, _, h => ⟨fl, ⟨0, fun j _ => rfl⟩, h, fun q hq => hq.elim (fun h => by cases h) id, fun _ _ => rfl, fun _ => Int.le_refl _, .rfl'⟩
 | p :: s, fl, hs, h => by
  have hp := hs p List.mem_cons_self
  obtain ⟨m, hm⟩ := Int.eq_ofNat_of_zero_le (totL_nn h.lf L (Nat.le_refl _))
  obtain ⟨f1, ⟨k1, g1⟩, g2, g3, g4, g5, g6⟩ := fill_run hv hn hnP hp m h (by omega)
  obtain ⟨f2, ⟨k2, r1⟩, r2, r3, r4, r5, r6⟩ := fills_run hv hn hnP (fun q hq => hs q (List.mem_cons_of_mem _ hq)) g2
  refine ⟨f2, ⟨max k1 k2, fun j hj => ?_⟩, r2, fun q hq => r3 q ?_, fun q hq => ?_, fun b => Int.le_trans (r5 b) (g5 b), g6.trans r6⟩
  ·rw [fillsF, g1 j (by omega)]
   exact r1 j (by omega)
  ·by_cases e : q = p
   ·subst e; exact .inr g3
   ·rcases hq with hq | hq
    ·rcases List.mem_cons.1 hq with rfl | hq
     ·exact absurd rfl e
     ·exact .inl hq
    ·exact .inr ((g4 q e).2 hq)
  ·rw [List.mem_cons, not_or] at hq
   rw [r4 q hq.2, (g4 q hq.1).1]
end
end Go.Proofs.Tryz
end

section
namespace Go.Proofs.Tryz
open Go Go.Vm
set_option maxRecDepth 20000
theorem cell_flow0 {y : Yd} {l : List Bt} {b p : Nat} : cellZ (flow0 y l) b p = 0 := by
 unfold cellZ flow0
 simp only [List.getD_eq_getElem?_getD, List.getElem?_map]
 cases l[b]? with
 | none => simp
 | some x =>
  simp only [Option.map_some, Option.getD_some, List.getElem?_replicate]
  split <;> rfl
theorem dim_flow0 {y : Yd} {l : List Bt} : Dim y.pits.length l.length (flow0 y l) := by
 refine ⟨by rw [flow0, List.length_map], fun r hr => ?_⟩
 obtain ⟨b, -, rfl⟩ := List.mem_map.1 hr
 exact List.length_replicate ..
theorem left_flow0 {y : Yd} {l : List Bt} {vol : List Int} {b : Nat} (hb : b < l.length) : leftF vol (flow0 y l) b = vol.getD b 0 := by
 rw [left_sum dim_flow0 hb, sumN_congr (g := fun _ => 0) (fun p _ => cell_flow0), sumN_zero]; omega
theorem free_flow0 {y : Yd} {l : List Bt} {room : List Int} {p : Nat} : freeF room (flow0 y l) p = room.getD p 0 := by
 rw [free_sum dim_flow0, sumN_congr (g := fun _ => 0) (fun b _ => cell_flow0), sumN_zero]; omega
theorem getD_bd9 {l : List Int} {M : Int} (h : ∀ x ∈ l, 0 ≤ x ∧ x ≤ M) (hM : 0 ≤ M) (i : Nat) : 0 ≤ l.getD i 0 ∧ l.getD i 0 ≤ M := by
 rw [List.getD_eq_getElem?_getD]
 cases hx : l[i]? with
 | none => exact ⟨Int.le_refl _, hM⟩
 | some x => exact h x (List.mem_of_getElem? hx)
theorem vol_bd {y : Yd} {l : List Bt} (h : LsOk y l) (b : Nat) : 0 ≤ (volF y l).getD b 0 ∧ (volF y l).getD b 0 ≤ 10000000000001000 := by
 have hy := yd_ok h.yd
 exact getD_bd9 (volsGo_spec h.wok ⟨hy.carL, hy.car⟩).2 (by decide) b
theorem room_bd {y : Yd} (h : YdOk y) (p : Nat) : 0 ≤ (roomF y).getD p 0 ∧ (roomF y).getD p 0 ≤ 40000000000000 :=
 getD_bd9 (fun x hx => by
  obtain ⟨q, hq, rfl⟩ := List.mem_map.1 hx
  exact roomS_bd h hq) (by decide) p
theorem fl_flow0 {y : Yd} {l : List Bt} (h : LsOk y l) : FlOk (accF y l) y.pits.length l.length (volF y l) (roomF y) (flow0 y l) :=
 ⟨dim_flow0, fun b p => by rw [cell_flow0]; exact Int.le_refl _, fun b p hc => by rw [cell_flow0] at hc; exact absurd hc (by decide),
  fun b hb => by rw [left_flow0 hb]; exact (vol_bd h b).1, fun p _ => by rw [free_flow0]; exact (room_bd (yd_ok h.yd) p).1⟩
def ordF (y : Yd) : List Nat := sortGo (priceF y) [] (List.range y.pits.length)
theorem ordF_mem {y : Yd} {p : Nat} : p ∈ ordF y ↔ p < y.pits.length := by
 rw [ordF, sortGo_mem]; simp
theorem solve_run {y : Yd} {l : List Bt} (h : LsOk y l) : ∃ fl k, fillsF (accF y l) y.pits.length l.length 20 k (volF y l) (roomF y) (ordF y) (flow0 y l) = some fl ∧ FlOk (accF y l) y.pits.length l.length (volF y l) (roomF y) fl ∧
 ∀ p, p < y.pits.length → Shut (accF y l) y.pits.length l.length (volF y l) (roomF y) fl p := by
 have hy := yd_ok h.yd
 have hP := hy.pits
 have hL := h.len
 obtain ⟨fl, ⟨k, hk⟩, h2, h3, -, -, -⟩ := fills_run (fun b => by have := vol_bd h b; omega) (n := 20) (by omega) (by omega) (s := ordF y) (fun p hp => ordF_mem.1 hp) (fl_flow0 h)
 exact ⟨fl, k, hk k (Nat.le_refl _), h2, fun p hp => h3 p (.inl (ordF_mem.2 hp))⟩
theorem done_iff {L : Nat} {vol : List Int} {fl : List (List Int)} : doneF L vol fl = true ↔ ∀ b, b < L → leftF vol fl b ≤ 0 := by
 rw [doneF, List.all_eq_true]
 constructor
 ·intro h b hb
  have := h b (List.mem_range.2 hb)
  simpa using this
 ·intro h b hb
  have := h b (List.mem_range.1 hb)
  simpa using this
theorem no_cut {acc : Nat → Nat → Bool} {P L : Nat} {vol room : List Int} {fl : List (List Int)} (h : FlOk acc P L vol room fl) (hd : doneF L vol fl = true) (A : Nat → Bool) : needS L vol A ≤ haveS acc P L room A := by
 have h1 := cut_weak h A
 have h2 : restS L vol fl A = 0 := (sumN_congr fun b hb => by
  have h3 := h.lf b hb
  have h4 := done_iff.1 hd b hb
  show (if A b = true then leftF vol fl b else 0) = 0
  split <;> omega).trans sumN_zero
 omega
theorem is_cut {acc : Nat → Nat → Bool} {P L : Nat} {vol room : List Int} {fl : List (List Int)} (h : FlOk acc P L vol room fl) (hs : ∀ p, p < P → Shut acc P L vol room fl p) (hd : doneF L vol fl = false) {n : Nat} (hn : L ≤ n) :
 ∃ w, reachF acc P L n vol fl = some w ∧ RsI acc P L vol fl w ∧ haveS acc P L room (hasN w.bs) < needS L vol (hasN w.bs) := by
 obtain ⟨w, hw, hI, hX, hR⟩ := reach_ok (acc := acc) (P := P) (vol := vol) (fl := fl) hn
 have h1 := cut_strong h hs hI hX hR
 have hex : ∃ b, b < L ∧ 0 < leftF vol fl b := by
  refine Classical.byContradiction fun hno => ?_
  have : doneF L vol fl = true := done_iff.2 fun b hb => by
   refine Classical.byContradiction fun hb' => hno ⟨b, hb, by omega⟩
  rw [this] at hd; cases hd
 obtain ⟨b, hb, hl⟩ := hex
 have h2 := rest_pos h hb (hI.start b hb hl) hl
 exact ⟨w, hw, hI, by omega⟩
end Go.Proofs.Tryz
end

section
namespace Go.Proofs.Tryz
open Go Go.Vm
set_option maxRecDepth 20000
theorem sumN_hit {c : Int} {k : Nat} : ∀ {n : Nat}, sumN n (fun i => if i = k then c else 0) = if k < n then c else 0
 | 0 => by simp [sumN]
 | n + 1 => by
  rw [sumN, sumN_hit (n := n)]
  by_cases h1 : n = k
  ·subst h1; simp
  ·rw [if_neg h1]
   by_cases h2 : k < n
   ·rw [if_pos h2, if_pos (by omega)]; omega
   ·rw [if_neg h2, if_neg (by omega)]; rfl
section
variable {acc : Nat → Nat → Bool} {P L : Nat} {vol room : List Int} {ix : Int → Int}
structure IxOk (ix : Int → Int) (L : Nat) : Prop where
 lt : ∀ n, ix n < L
 inj : ∀ n m, 0 ≤ ix n → ix n = ix m → n = m
end
end Go.Proofs.Tryz
end

section
namespace Go.Proofs.Tryz
open Go Go.Vm
set_option maxRecDepth 20000
section
variable {acc : Nat → Nat → Bool} {P L : Nat} {vol room : List Int} {ib : Int → Int} {ip : ByteArray → Int}
def asgGo (acc : Nat → Nat → Bool) (ib : Int → Int) (ip : ByteArray → Int) : List Int → List Int → List (Int × Int) → List Al → Option (List Int)
 | vol, _, _, [] => some vol
 | vol, room, seen, a :: r =>
  if ib a.n < 0 ∨ ip a.pit < 0 ∨ a.vol ≤ 0 then none
  else if acc (ip a.pit).toNat (ib a.n).toNat = false then none
  else if (ib a.n, ip a.pit) ∈ seen then none
  else if vol.getD (ib a.n).toNat 0 < a.vol ∨ room.getD (ip a.pit).toNat 0 < a.vol then none
  else asgGo acc ib ip (vol.set (ib a.n).toNat (vol.getD (ib a.n).toNat 0 - a.vol)) (room.set (ip a.pit).toNat (room.getD (ip a.pit).toNat 0 - a.vol)) (seen ++ [(ib a.n, ip a.pit)]) r
def asgB (acc : Nat → Nat → Bool) (ib : Int → Int) (ip : ByteArray → Int) (vol room : List Int) (x : List Al) : Bool := match asgGo acc ib ip vol room [] x with
 | none => false
 | some v => !v.any fun z => z != 0
def raGo (acc : Nat → Nat → Bool) (ib : Int → Int) (ip : ByteArray → Int) : List Int → List Int → List Al → List Al → Option (List Int × List Int)
 | v, tk, _, [] => some (v, tk)
 | v, tk, o, a :: r =>
  if ib a.n < 0 ∨ ip a.pit < 0 then none
  else if acc (ip a.pit).toNat (ib a.n).toNat = false then none
  else if a.vol < 1 ∨ v.getD (ib a.n).toNat 0 < a.vol then none
  else if o.any (fun x => x.n == a.n && sEq x.pit a.pit) = true then none
  else raGo acc ib ip (v.set (ib a.n).toNat (v.getD (ib a.n).toNat 0 - a.vol)) (tk.set (ip a.pit).toNat (tk.getD (ip a.pit).toNat 0 + a.vol)) (o ++ [a]) r
def raB (acc : Nat → Nat → Bool) (ib : Int → Int) (ip : ByteArray → Int) (P : Nat) (vol room : List Int) (x : List Al) : Bool := match raGo acc ib ip vol (List.replicate P 0) [] x with
 | none => false
 | some r => (!r.1.any fun z => z != 0) && !(List.range P).any fun p => decide (room.getD p 0 < r.2.getD p 0)
theorem sumA_nil {q : Al → Bool} : sumA q [] = 0 := rfl
theorem sumA_nn {q : Al → Bool} : ∀ {x : List Al}, (∀ a ∈ x, 0 < a.vol) → 0 ≤ sumA q x
 | [], _ => by simp [sumA]
 | a :: r, h => by
  have h1 := h a (by simp)
  have h2 := sumA_nn (q := q) (x := r) fun b hb => h b (List.mem_cons_of_mem _ hb)
  rw [sumA_cons]
  split <;> omega
theorem set_at {v : List Int} {i : Int} (h0 : 0 ≤ i) (h1 : i < v.length) (z : Int) (b : Nat) : (v.set i.toNat z).getD b 0 = if (i == (b : Int)) = true then z else v.getD b 0 := by
 rw [getD_set9 (by omega)]
 by_cases e : i.toNat = b
 ·rw [if_pos e, if_pos (by simp; omega)]
 ·rw [if_neg e, if_neg (by simp; omega)]
theorem any_ne {v : List Int} : (v.any fun z => z != 0) = false ↔ ∀ b, b < v.length → 0 = v.getD b 0 := by
 rw [List.any_eq_false]
 constructor
 ·intro h b hb
  have := h v[b] (List.getElem_mem _)
  rw [List.getD_eq_getElem?_getD, List.getElem?_eq_getElem hb, Option.getD_some]
  simp at this; omega
 ·intro h z hz
  obtain ⟨b, hb, rfl⟩ := List.getElem_of_mem hz
  have := h b hb
  rw [List.getD_eq_getElem?_getD, List.getElem?_eq_getElem hb, Option.getD_some] at this
  simp; omega
theorem asg_chr (hib : ∀ n, ib n < L) (hip : ∀ s, ip s < P) : ∀ {x : List Al} {v rm : List Int} {seen : List (Int × Int)}, v.length = L → rm.length = P → (∀ p, p < P → 0 ≤ rm.getD p 0) →
 ((∃ v', asgGo acc ib ip v rm seen x = some v' ∧ (v'.any fun z => z != 0) = false) ↔ Chr acc ib ip P L (fun b => v.getD b 0) (fun p => rm.getD p 0) seen x)
 | [], v, rm, seen, hv, hr, h0 => by
  constructor
  ·rintro ⟨v', h1, h2⟩
   rw [asgGo] at h1
   cases h1
   exact ⟨by simp, by simp, by simp, fun b hb => any_ne.1 h2 b (by omega), h0⟩
  ·intro h
   exact ⟨v, rfl, any_ne.2 fun b hb => h.sb b (by omega)⟩
 | a :: r, v, rm, seen, hv, hr, h0 => by
  have hb := hib a.n
  have hp := hip a.pit
  have key : 0 ≤ ib a.n → 0 ≤ ip a.pit → Vld acc ib ip a → (ib a.n, ip a.pit) ∉ seen → a.vol ≤ rm.getD (ip a.pit).toNat 0 →
   ((∃ v', asgGo acc ib ip (v.set (ib a.n).toNat (v.getD (ib a.n).toNat 0 - a.vol)) (rm.set (ip a.pit).toNat (rm.getD (ip a.pit).toNat 0 - a.vol)) (seen ++ [(ib a.n, ip a.pit)]) r = some v' ∧ (v'.any fun z => z != 0) = false) ↔
     Chr acc ib ip P L (fun b => v.getD b 0) (fun p => rm.getD p 0) seen (a :: r)) := fun k1 k2 k3 k4 k5 => by
   rw [asg_chr hib hip (by rw [List.length_set]; exact hv) (by rw [List.length_set]; exact hr) (fun p hp' => by
    rw [set_at k2 (by omega)]
    have := h0 p hp'
    split <;> omega)]
   refine (Chr.cons (acc := acc) (ib := ib) (ip := ip) hb hp k3 k4 (fun b hb' => ?_) fun p hp' => ?_).symm
   ·rw [set_at k1 (by omega)]
    split
    ·rename_i e
     have : (ib a.n).toNat = b := by have := eq_of_beq e; omega
     rw [this]
    ·omega
   ·rw [set_at k2 (by omega)]
    split
    ·rename_i e
     have : (ip a.pit).toNat = p := by have := eq_of_beq e; omega
     rw [this]
    ·omega
  constructor
  ·rintro ⟨v', h1, h2⟩
   rw [asgGo] at h1
   split at h1
   ·cases h1
   rename_i c1
   split at h1
   ·cases h1
   rename_i c2
   split at h1
   ·cases h1
   rename_i c3
   split at h1
   ·cases h1
   rename_i c4
   exact (key (by omega) (by omega) ⟨by omega, by omega, by omega, by simpa using c2⟩ c3 (by omega)).1 ⟨v', h1, h2⟩
  ·intro h
   have hk := h.ok a (by simp)
   have k1 := hk.b
   have k2 := hk.p
   have k3 := hk.v
   have hs := h.ns a (by simp)
   have hrp : ∀ c ∈ r, 0 < c.vol := fun c hc => (h.ok c (List.mem_cons_of_mem _ hc)).v
   have s1 := h.sb (ib a.n).toNat (by omega)
   have s2 := h.sp (ip a.pit).toNat (by omega)
   rw [sumA_cons, if_pos (by simp; omega)] at s1 s2
   have n1 := sumA_nn (q := fun c => ib c.n == ((ib a.n).toNat : Int)) hrp
   have n2 := sumA_nn (q := fun c => ip c.pit == ((ip a.pit).toNat : Int)) hrp
   rw [asgGo, if_neg (by omega), if_neg (by rw [hk.ac]; decide), if_neg hs, if_neg (by omega)]
   exact (key k1 k2 hk hs (by omega)).2 h
theorem asgB_chr (hib : ∀ n, ib n < L) (hip : ∀ s, ip s < P) (hv : vol.length = L) (hr : room.length = P) (h0 : ∀ p, p < P → 0 ≤ room.getD p 0) (x : List Al) :
 asgB acc ib ip vol room x = true ↔ Chr acc ib ip P L (fun b => vol.getD b 0) (fun p => room.getD p 0) [] x := by
 rw [← asg_chr hib hip hv hr h0, asgB]
 constructor
 ·intro h
  split at h
  ·cases h
  ·rename_i v hv
   exact ⟨v, hv, by simpa using h⟩
 ·rintro ⟨v, h1, h2⟩
  rw [h1]
  simp only [h2]; rfl
structure Inj (ib : Int → Int) (ip : ByteArray → Int) : Prop where
 b : ∀ n m, 0 ≤ ib n → (ib n = ib m ↔ n = m)
 p : ∀ s t, 0 ≤ ip s → (ip s = ip t ↔ sEq s t = true)
theorem seen_iff (hj : Inj ib ip) {o : List Al} {a : Al} (h2 : ∀ c ∈ o, 0 ≤ ib c.n ∧ 0 ≤ ip c.pit) : o.any (fun x => x.n == a.n && sEq x.pit a.pit) = true ↔ (ib a.n, ip a.pit) ∈ o.map fun c => (ib c.n, ip c.pit) := by
 rw [List.any_eq_true, List.mem_map]
 constructor
 ·rintro ⟨c, hc, h⟩
  rw [Bool.and_eq_true] at h
  exact ⟨c, hc, by rw [(hj.b _ _ (h2 c hc).1).2 (eq_of_beq h.1), (hj.p _ _ (h2 c hc).2).2 h.2]⟩
 ·rintro ⟨c, hc, h⟩
  rw [Prod.mk.injEq] at h
  exact ⟨c, hc, by rw [(hj.b _ _ (h2 c hc).1).1 h.1, (hj.p _ _ (h2 c hc).2).1 h.2]; simp⟩
theorem ra_chr (hj : Inj ib ip) (hib : ∀ n, ib n < L) (hip : ∀ s, ip s < P) (hr : room.length = P) : ∀ {x : List Al} {v tk : List Int} {o : List Al}, v.length = L → tk.length = P → (∀ c ∈ o, 0 ≤ ib c.n ∧ 0 ≤ ip c.pit) →
 ((∃ r, raGo acc ib ip v tk o x = some r ∧ (r.1.any fun z => z != 0) = false ∧ ∀ p, p < P → r.2.getD p 0 ≤ room.getD p 0) ↔ Chr acc ib ip P L (fun b => v.getD b 0) (fun p => room.getD p 0 - tk.getD p 0) (o.map fun c => (ib c.n, ip c.pit)) x)
 | [], v, tk, o, hv, ht, ho => by
  constructor
  ·rintro ⟨v', h1, h2, h3⟩
   rw [raGo] at h1
   cases h1
   exact ⟨by simp, by simp, by simp, fun b hb => any_ne.1 h2 b (by dsimp only; omega), fun p hp => by have := h3 p hp; rw [sumA_nil]; dsimp only at this ⊢; omega⟩
  ·intro h
   exact ⟨_, rfl, any_ne.2 fun b hb => h.sb b (by dsimp only at hb; omega), fun p hp => by have := h.sp p hp; rw [sumA_nil] at this; dsimp only at this ⊢; omega⟩
 | a :: r, v, tk, o, hv, ht, ho => by
  have hb := hib a.n
  have hp := hip a.pit
  have key : 0 ≤ ib a.n → 0 ≤ ip a.pit → Vld acc ib ip a → (ib a.n, ip a.pit) ∉ (o.map fun c => (ib c.n, ip c.pit)) →
   ((∃ z, raGo acc ib ip (v.set (ib a.n).toNat (v.getD (ib a.n).toNat 0 - a.vol)) (tk.set (ip a.pit).toNat (tk.getD (ip a.pit).toNat 0 + a.vol)) (o ++ [a]) r = some z ∧ (z.1.any fun z => z != 0) = false ∧ ∀ p, p < P → z.2.getD p 0 ≤ room.getD p 0) ↔
     Chr acc ib ip P L (fun b => v.getD b 0) (fun p => room.getD p 0 - tk.getD p 0) (o.map fun c => (ib c.n, ip c.pit)) (a :: r)) := fun k1 k2 k3 k4 => by
   rw [ra_chr hj hib hip hr (by rw [List.length_set]; exact hv) (by rw [List.length_set]; exact ht) (fun c hc => by
    rcases List.mem_append.1 hc with hc | hc
    ·exact ho c hc
    ·rw [List.mem_singleton.1 hc]; exact ⟨k1, k2⟩)]
   rw [List.map_append, List.map_cons, List.map_nil]
   refine (Chr.cons (acc := acc) (ib := ib) (ip := ip) hb hp k3 k4 (fun b hb' => ?_) fun p hp' => ?_).symm
   ·rw [set_at k1 (by omega)]
    split
    ·rename_i e
     have : (ib a.n).toNat = b := by have := eq_of_beq e; omega
     rw [this]
    ·omega
   ·rw [set_at k2 (by omega)]
    split
    ·rename_i e
     have : (ip a.pit).toNat = p := by have := eq_of_beq e; omega
     rw [this]; omega
    ·omega
  constructor
  ·rintro ⟨v', h1, h2⟩
   rw [raGo] at h1
   split at h1
   ·cases h1
   rename_i c1
   split at h1
   ·cases h1
   rename_i c2
   split at h1
   ·cases h1
   rename_i c3
   split at h1
   ·cases h1
   rename_i c4
   rw [seen_iff hj ho] at c4
   exact (key (by omega) (by omega) ⟨by omega, by omega, by omega, by simpa using c2⟩ c4).1 ⟨v', h1, h2⟩
  ·intro h
   have hk := h.ok a (by simp)
   have k1 := hk.b
   have k2 := hk.p
   have k3 := hk.v
   have hs := h.ns a (by simp)
   have hrp : ∀ c ∈ r, 0 < c.vol := fun c hc => (h.ok c (List.mem_cons_of_mem _ hc)).v
   have s1 := h.sb (ib a.n).toNat (by omega)
   rw [sumA_cons, if_pos (by simp; omega)] at s1
   have n1 := sumA_nn (q := fun c => ib c.n == ((ib a.n).toNat : Int)) hrp
   rw [raGo, if_neg (by omega), if_neg (by rw [hk.ac]; decide), if_neg (by omega), if_neg (by rw [seen_iff hj ho]; exact hs)]
   exact (key k1 k2 hk hs).2 h
theorem raB_chr (hj : Inj ib ip) (hib : ∀ n, ib n < L) (hip : ∀ s, ip s < P) (hv : vol.length = L) (hr : room.length = P) (x : List Al) :
 raB acc ib ip P vol room x = true ↔ Chr acc ib ip P L (fun b => vol.getD b 0) (fun p => room.getD p 0) [] x := by
 have h := ra_chr (acc := acc) (L := L) (room := room) hj hib hip hr (x := x) (v := vol) (tk := List.replicate P 0) (o := []) hv (by simp) (by simp)
 have e : (fun p => room.getD p 0 - (List.replicate P (0 : Int)).getD p 0) = fun p => room.getD p 0 := by
  funext p
  rw [List.getD_eq_getElem?_getD (l := List.replicate P (0 : Int)), List.getElem?_replicate]
  split <;> simp
 rw [e, List.map_nil] at h
 rw [← h, raB]
 constructor
 ·intro h
  split at h
  ·cases h
  ·rename_i z hz
   rw [Bool.and_eq_true] at h
   refine ⟨z, hz, by simpa using h.1, fun p hp => ?_⟩
   have h2 := h.2
   rw [Bool.not_eq_true', List.any_eq_false] at h2
   have := h2 p (List.mem_range.2 hp)
   rw [decide_eq_true_eq] at this; omega
 ·rintro ⟨z, h1, h2, h3⟩
  rw [h1]
  simp only [h2, Bool.not_false, Bool.true_and, Bool.not_eq_true', List.any_eq_false]
  intro p hp
  have := h3 p (List.mem_range.1 hp)
  rw [decide_eq_true_eq]; omega
end
end Go.Proofs.Tryz
end

section
namespace Go.Proofs.Tryz
open Go Go.Vm
set_option maxRecDepth 20000
section
variable {acc : Nat → Nat → Bool} {P L : Nat} {vol room : List Int} {pr : Nat → Int} {fl : List (List Int)}
def costS (P L : Nat) (pr : Nat → Int) (fl : List (List Int)) : Int := sumN L fun b => sumN P fun p => cellZ fl b p * pr p
end
end Go.Proofs.Tryz
end

section
namespace Go.Proofs.Tryz
open Go Go.Vm
set_option maxRecDepth 20000
theorem atI_ok {l : List Bt} : IxOk (atI l) l.length := ⟨fun n => ix_lt, fun n m h0 he => by
 obtain ⟨i, r, h1, h2, h3⟩ := ix_at (p := fun b : Bt => b.n == n) (l := l) (show ¬ atI l n < 0 by omega)
 obtain ⟨j, s, k1, k2, k3⟩ := ix_at (p := fun b : Bt => b.n == m) (l := l) (show ¬ atI l m < 0 by omega)
 have e1 : atI l n = i := h1
 have e2 : atI l m = j := k1
 have : i = j := by omega
 subst this
 rw [h2] at k2
 cases k2
 exact (eq_of_beq h3).symm.trans (eq_of_beq k3)⟩
theorem pitI_lt {y : Yd} (s : ByteArray) : pitI y s < y.pits.length := ix_lt
theorem at_inj {y : Yd} {l : List Bt} : Inj (atI l) (pitI y) := ⟨fun n m h0 => ⟨fun he => atI_ok.inj n m h0 he, fun he => by rw [he]⟩, fun s t h0 => ⟨fun he => by
 obtain ⟨i, r, h1, h2, h3⟩ := ix_at (p := fun p : Pt => sEq p.name s) (l := y.pits) (show ¬ pitI y s < 0 by omega)
 obtain ⟨j, q, k1, k2, k3⟩ := ix_at (p := fun p : Pt => sEq p.name t) (l := y.pits) (show ¬ pitI y t < 0 by omega)
 have e1 : pitI y s = i := h1
 have e2 : pitI y t = j := k1
 have : i = j := by omega
 subst this
 rw [h2] at k2
 cases k2
 rw [← sEq_eq h3, ← sEq_eq k3]
 exact sEq_self _, fun he => by rw [sEq_eq he]⟩⟩
section
variable {acc : Nat → Nat → Bool} {P L : Nat} {vol room : List Int} {pr : Nat → Int} {ib : Int → Int} {ip : ByteArray → Int}
theorem costS_add {fl : List (List Int)} (hd : Dim P L fl) {b p : Nat} {a : Int} (hb : b < L) (hp : p < P) : costS P L pr (addF fl b p a) = costS P L pr fl + a * pr p := by
 unfold costS
 have e : ∀ b', sumN P (fun q => cellZ (addF fl b p a) b' q * pr q) = sumN P (fun q => cellZ fl b' q * pr q) + if b' = b then a * pr p else 0 := fun b' => by
  have : (fun q => cellZ (addF fl b p a) b' q * pr q) = fun q => cellZ fl b' q * pr q + if q = p then (if b' = b then a * pr p else 0) else 0 := by
   funext q
   rw [cell_add hd hb hp, Int.add_mul]
   congr 1
   by_cases e1 : q = p
   ·subst e1
    by_cases e2 : b' = b
    ·subst e2; simp
    ·rw [if_neg (fun h => e2 h.1.symm), if_pos rfl, if_neg e2]; simp
   ·rw [if_neg (fun h => e1 h.2.symm), if_neg e1]; simp
  rw [this, sumN_add, sumN_hit, if_pos hp]
 simp only [e]
 rw [sumN_add, sumN_hit, if_pos hb]
def flA (ib : Int → Int) (ip : ByteArray → Int) (x : List Al) (fl : List (List Int)) : List (List Int) := x.foldl (fun f a => addF f (ib a.n).toNat (ip a.pit).toNat a.vol) fl
def costL (ip : ByteArray → Int) (pr : Nat → Int) (x : List Al) : Int := (x.map fun a => a.vol * pr (ip a.pit).toNat).sum
theorem flA_ok (hib : ∀ n, ib n < L) (hip : ∀ s, ip s < P) : ∀ {x : List Al} {fl : List (List Int)}, (∀ a ∈ x, Vld acc ib ip a) → Dim P L fl → (∀ b p, 0 ≤ cellZ fl b p) → (∀ b p, 0 < cellZ fl b p → acc p b = true) →
 Dim P L (flA ib ip x fl) ∧ (∀ b p, 0 ≤ cellZ (flA ib ip x fl) b p) ∧ (∀ b p, 0 < cellZ (flA ib ip x fl) b p → acc p b = true) ∧
  (∀ b, leftF vol (flA ib ip x fl) b = leftF vol fl b - sumA (fun a => ib a.n == (b : Int)) x) ∧ (∀ p, freeF room (flA ib ip x fl) p = freeF room fl p - sumA (fun a => ip a.pit == (p : Int)) x) ∧
  costS P L pr (flA ib ip x fl) = costS P L pr fl + costL ip pr x
 | [], fl, _, hd, hn, ha => ⟨hd, hn, ha, fun b => by rw [sumA_nil]; simp [flA], fun p => by rw [sumA_nil]; simp [flA], by simp [flA, costL]⟩
 | a :: r, fl, hx, hd, hn, ha => by
  have hv := hx a (by simp)
  have k1 := hv.b
  have k2 := hv.p
  have k3 := hv.v
  have hb : (ib a.n).toNat < L := by have := hib a.n; omega
  have hp : (ip a.pit).toNat < P := by have := hip a.pit; omega
  obtain ⟨i1, i2, i3, i4, i5, i6⟩ := flA_ok hib hip (x := r) (fl := addF fl (ib a.n).toNat (ip a.pit).toNat a.vol) (fun c hc => hx c (List.mem_cons_of_mem _ hc)) (hd.add _ _ _) (fun b p => by
   rw [cell_add hd hb hp]; have := hn b p; split <;> omega) (fun b p h => by
   rw [cell_add hd hb hp] at h
   by_cases e : (ib a.n).toNat = b ∧ (ip a.pit).toNat = p
   ·rw [← e.1, ← e.2]; exact hv.ac
   ·rw [if_neg e] at h; exact ha b p (by omega))
  refine ⟨i1, i2, i3, fun b => ?_, fun p => ?_, ?_⟩
  ·have := i4 b
   rw [left_add hd hb hp] at this
   rw [sumA_cons]
   show leftF vol (flA ib ip r _) b = _
   rw [this]
   by_cases e : (ib a.n).toNat = b
   ·rw [if_pos e, if_pos (by simp; omega)]; omega
   ·rw [if_neg e, if_neg (by simp; omega)]; omega
  ·have := i5 p
   rw [free_add hd hb hp] at this
   rw [sumA_cons]
   show freeF room (flA ib ip r _) p = _
   rw [this]
   by_cases e : (ip a.pit).toNat = p
   ·rw [if_pos e, if_pos (by simp; omega)]; omega
   ·rw [if_neg e, if_neg (by simp; omega)]; omega
  ·show costS P L pr (flA ib ip r _) = _
   rw [i6, costS_add hd hb hp]
   simp only [costL, List.map_cons, List.sum_cons]
   omega
end
theorem chr_flow {y : Yd} {l : List Bt} {x : List Al} (hc : Chr (accF y l) (atI l) (pitI y) y.pits.length l.length (fun b => (volF y l).getD b 0) (fun p => (roomF y).getD p 0) [] x) :
 ∃ fl, FlOk (accF y l) y.pits.length l.length (volF y l) (roomF y) fl ∧ (∀ b, b < l.length → leftF (volF y l) fl b = 0) ∧ costS y.pits.length l.length (priceF y) fl = costF y x := by
 obtain ⟨h1, h2, h3, h4, h5, h6⟩ := flA_ok (acc := accF y l) (P := y.pits.length) (L := l.length) (vol := volF y l) (room := roomF y) (pr := priceF y) atI_ok.lt (fun s => pitI_lt s) (x := x) (fl := flow0 y l) hc.ok dim_flow0 (fun b p => by rw [cell_flow0]; exact Int.le_refl _) (fun b p h => by rw [cell_flow0] at h; exact absurd h (by decide))
 have h7 : ∀ b, b < l.length → leftF (volF y l) (flA (atI l) (pitI y) x (flow0 y l)) b = 0 := fun b hb => by
  rw [h4, left_flow0 hb, hc.sb b hb]; omega
 refine ⟨_, ⟨h1, h2, h3, fun b hb => by rw [h7 b hb]; exact Int.le_refl _, fun p hp => ?_⟩, h7, ?_⟩
 ·have := hc.sp p hp
  rw [h5, free_flow0]; omega
 ·rw [h6]
  have : costS y.pits.length l.length (priceF y) (flow0 y l) = 0 := (sumN_congr fun b _ => (sumN_congr fun p _ => by rw [cell_flow0, Int.zero_mul]).trans sumN_zero).trans sumN_zero
  rw [this, Int.zero_add]; rfl
/-! What flows is accepted, in order. -/
section
variable {y : Yd} {l : List Bt} {fl : List (List Int)}
end
end Go.Proofs.Tryz
end

section
namespace Go.Proofs.Tryz
open Go Go.Vm
set_option maxRecDepth 20000
set_option maxHeartbeats 8000000
def tkC (y : Yd) (l : List Bt) (vol room : List Int) (fl : List (List Int)) : List D :=
 [.sl 6 (y.pits.map ptD), .sl 3 (y.bulk.map bkD), .sl 3 (y.deps.map dpD), .sl 1 (y.carry.map iD), .sl 5 (l.map btD), .sl 1 (vol.map iD), .sl 1 (room.map iD), .sl 1 ((fl.map fun r => r.map iD).map (.sl 1))]
theorem ev_begin {y : Yd} {l : List Bt} (hs : smallP y) (hl : l.length ≤ 1000000) (h0 : lstE y l = 0) :
 Ev Tryz.prog 30 [ydD y, .sl 5 (l.map btD)] (.tup [.ref (tkC y l (volF y l) (roomF y) (flow0 y l)) 0, iD 0]) :=
 Ev.ofPtr (b := 9) (rest := [iD 0]) (xv_begin hs hl h0) rfl rfl (.unM (rs := (flow0 y l).map fun r => r.map iD) (by rw [List.map_map]; rfl) (.ok _ _))
section
variable {y : Yd} {l : List Bt} {vol room : List Int} {fl : List (List Int)}
theorem ev_batchOfD (n : Int) (hl : l.length ≤ 1000000) : Ev Tryz.prog 49 [.ref (tkC y l vol room fl) 0, iD n] (iD (atI l n)) := by
 have hw := ev_IndexBt l 83 [.ref [iD n] 0] (fun b => b.n == n) hl (fun b _ => ev_batchOf1 b n)
 unfold tkC
 refine ev_of_awp tysOk mixed (fn := Tryz.f49) Tryz.func49 rfl rfl rfl ?_
 conv => whnf
 repeat' (first|((with_reducible refine AltK.l ?_);(conv=>whnf);(first|(refine CallK.mk _ (hw) ?_));conv=>whnf)|fail)
 rfl
theorem ev_acceptsD {p b : Nat} (hp : p < y.pits.length) (hb : b < l.length) (hcl : ∀ p ∈ y.pits, p.cls.length ≤ 1000000) :
 Ev Tryz.prog 51 [.ref (tkC y l vol room fl) 0, iD p, iD b] (.bool (accF y l p b)) := by
 obtain ⟨q, hq⟩ := some_of_lt hp
 obtain ⟨x, hx⟩ := some_of_lt hb
 have hl1 : (y.pits.map ptD).length = y.pits.length := List.length_map _
 have hl2 : (l.map btD).length = l.length := List.length_map _
 have hc := ev_ContainsInt q.cls x.cls (hcl q (List.mem_of_getElem? hq))
 have el : accF y l p b = q.cls.any fun c => c == x.cls := by simp [accF, hq, hx, accB]
 rw [el]
 unfold tkC
 refine ev_of_awp tysOk mixed (fn := Tryz.f51) Tryz.func51 rfl rfl rfl ?_
 conv => whnf
 repeat' (first|((refine PickE.map b hx (by omega) ?_);conv=>whnf)|((refine PickE.map p hq (by omega) ?_);conv=>whnf)|((with_reducible refine Need.mk ?_ ?_);(first|omega|rfl|decide|(refine ⟨?_,?_⟩<;>simp<;>omega)|(simp;omega));conv=>whnf)|((with_reducible refine AltK.l ?_);(conv=>whnf);(first|(refine CallK.mk _ (hc) ?_));conv=>whnf)|fail)
 rfl
end
theorem ev_IndexIf (l : List Int) (f : Nat) (p : Int → Bool) (hn : l.length ≤ 1000000) (hf : ∀ g ∈ l, Ev Tryz.prog f [iD g] (.bool (p g))) :
 Ev Tryz.prog 102 [.sl 1 (l.map iD), .fn f []] (iD (ixI p l)) := by
 have hlen : (l.map iD).length = l.length := List.length_map _
 refine ev_of_awp tysOk mixed (fn := Tryz.f102) Tryz.func102 rfl rfl rfl ?_
 conv => whnf
 skip
 refine LoopK.o2 (fun i : Nat => i ≤ l.length ∧ ∀ g ∈ l.take i, p g = false) (fun i => [(8, .d (.int .i64 i))]) (fun _ => []) (fun i => l.length - i) 0 (by simp) (by refine ⟨?_, ?_, rfl⟩<;>(repeat' (first|exact True.intro|exact rfl|(refine ⟨?_,?_⟩)|fail));done) ?_
 rintro i ⟨hi, hp⟩
 by_cases hil : i < l.length
 ·obtain ⟨g, hg⟩ := some_of_lt hil
  have hc := hf g (List.mem_of_getElem? hg)
  cases hpg : p g with
  | true =>
   rw [hpg] at hc
   conv => whnf
   repeat' (first|((refine PickE.map i hg (by omega) ?_);conv=>whnf)|((with_reducible refine Split.of_true ?_);conv=>whnf)|((with_reducible refine Split.dec (fun _=>?_) (fun _=>?_))<;>conv=>whnf)|((with_reducible refine Need.mk ?_ ?_);(first|omega|rfl|decide|(refine ⟨?_,?_⟩<;>simp<;>omega)|(simp;omega));conv=>whnf)|((with_reducible refine AltK.l ?_);(conv=>whnf);(first|(refine CallK.mk _ (hc) ?_));conv=>whnf)|(exfalso;first|omega|contradiction)|fail)
   have e : l.findIdx? p = some i := by
    rw [List.findIdx?_eq_some_iff_getElem]
    refine ⟨by omega, by rw [(List.getElem?_eq_some_iff.1 hg).2]; exact hpg, fun j hj => ?_⟩
    have := hp l[j] (List.mem_take_iff_getElem.2 ⟨j, by omega, rfl⟩)
    rw [this]; decide
   rw [ixI, e]; rfl
  | false =>
   rw [hpg] at hc
   conv => whnf
   repeat' (first|((refine PickE.map i hg (by omega) ?_);conv=>whnf)|((with_reducible refine Split.of_false ?_);conv=>whnf)|((with_reducible refine Split.dec (fun _=>?_) (fun _=>?_))<;>conv=>whnf)|((with_reducible refine Need.mk ?_ ?_);(first|omega|rfl|decide|(refine ⟨?_,?_⟩<;>simp<;>omega)|(simp;omega));conv=>whnf)|((with_reducible refine Wr.inr ?_ ?_);(first|omega|(simp;omega));conv=>whnf)|((with_reducible refine AltK.l ?_);(conv=>whnf);(first|(refine CallK.mk _ (hc) ?_));conv=>whnf)|(exfalso;first|omega|contradiction)|fail)
   refine Again.au (i + 1) ⟨by omega, fun z hz => ?_⟩ (by omega) (by refine ⟨?_, ?_, rfl⟩<;>(repeat' (first|exact True.intro|exact rfl|(refine ⟨?_,?_⟩)|fail));done)
   rw [take_snoc hg] at hz
   rcases List.mem_append.1 hz with hz | hz
   ·exact hp z hz
   ·rw [List.mem_singleton.1 hz]; exact hpg
 ·have e : l.findIdx? p = none := by
   rw [List.findIdx?_eq_none_iff]
   intro z hz
   rw [← List.take_of_length_le (show l.length ≤ i by omega)] at hz
   exact hp z hz
  rw [ixI, e]
  conv => whnf
  repeat' (first|((with_reducible refine Split.dec (fun _=>?_) (fun _=>?_))<;>conv=>whnf)|((with_reducible refine Need.mk ?_ ?_);(first|omega|rfl|decide|(refine ⟨?_,?_⟩<;>simp<;>omega)|(simp;omega));conv=>whnf)|(exfalso;first|omega|contradiction)|fail)
  rfl
theorem ev_ContainsIf (l : List Int) (f : Nat) (p : Int → Bool) (hn : l.length ≤ 1000000) (hf : ∀ g ∈ l, Ev Tryz.prog f [iD g] (.bool (p g))) :
 Ev Tryz.prog 79 [.sl 1 (l.map iD), .fn f []] (.bool (l.any p)) := by
 have h := ev_IndexIf l f p hn hf
 rw [any_ix]
 generalize ixI p l = i at *
 refine ev_of_awp tysOk mixed (fn := Tryz.f79) Tryz.func79 rfl rfl rfl ?_
 conv => whnf
 repeat' (first|((with_reducible refine AltK.l ?_);(conv=>whnf);(first|(refine CallK.mk _ (h) ?_));conv=>whnf)|fail)
 simp only [retOf, D.bool.injEq, decide_eq_decide]; omega
theorem ev_assigned1 (v : Int) : Ev Tryz.prog 80 [iD v] (.bool (v != 0)) := by
 refine ev_of_awp tysOk mixed (fn := Tryz.f80) Tryz.func80 rfl rfl rfl ?_
 conv => whnf
 skip
 rfl
def prD (k : Int × Int) : D := .agg [iD k.1, iD k.2]
theorem asgGo_at {acc : Nat → Nat → Bool} {ib : Int → Int} {ip : ByteArray → Int} {v r : List Int} {sn : List (Int × Int)} {x : List Al} {i : Nat} {a : Al} (h : x[i]? = some a) : asgGo acc ib ip v r sn (x.drop i) =
 if ib a.n < 0 ∨ ip a.pit < 0 ∨ a.vol ≤ 0 then none
 else if acc (ip a.pit).toNat (ib a.n).toNat = false then none
 else if (ib a.n, ip a.pit) ∈ sn then none
 else if v.getD (ib a.n).toNat 0 < a.vol ∨ r.getD (ip a.pit).toNat 0 < a.vol then none
 else asgGo acc ib ip (v.set (ib a.n).toNat (v.getD (ib a.n).toNat 0 - a.vol)) (r.set (ip a.pit).toNat (r.getD (ip a.pit).toNat 0 - a.vol)) (sn ++ [(ib a.n, ip a.pit)]) (x.drop (i + 1)) := by
 rw [drop_of h, asgGo]
theorem ev_assigned {y : Yd} {l : List Bt} {vol room : List Int} {fl : List (List Int)} (h : TkOk y l vol room fl) (x : List Al) (hn : x.length ≤ 1000) :
 Ev Tryz.prog 46 [.ref (tkC y l vol room fl) 0, .sl 3 (x.map alD)] (.bool (asgB (accF y l) (atI l) (pitI y) vol room x)) := by
 have e1 := h.hv
 have e2 := h.hr
 have e3 := h.hL
 have e4 := h.hP
 have hlx : (x.map alD).length = x.length := List.length_map _
 have c1 : EvX Tryz.prog 63 [.d (.sl 1 (vol.map iD))] [] (.own 17 1 (vol.map iD).length) [(17, .row 3 1 (vol.map iD) false)] := EvX.new1 (xs := [.sl 1 (vol.map iD)]) (xv_clonedI vol (by omega)) 17
 have c2 : EvX Tryz.prog 63 [.d (.sl 1 (room.map iD))] [] (.own 22 1 (room.map iD).length) [(22, .row 3 1 (room.map iD) false)] := EvX.new1 (xs := [.sl 1 (room.map iD)]) (xv_clonedI room (by omega)) 22
 have hBt := fun n => ev_batchOfD (y := y) (l := l) (vol := vol) (room := room) (fl := fl) n (by omega)
 have hAc := fun (p b : Nat) (hp : p < y.pits.length) (hb : b < l.length) => ev_acceptsD (y := y) (l := l) (vol := vol) (room := room) (fl := fl) hp hb h.cl
 unfold tkC at hBt hAc ⊢
 have hres : ∀ r, asgGo (accF y l) (atI l) (pitI y) vol room [] x = r → asgB (accF y l) (atI l) (pitI y) vol room x = match r with
  | none => false
  | some v => !v.any fun z => z != 0 := fun r hr => by subst hr; rfl
 generalize asgB (accF y l) (atI l) (pitI y) vol room x = res at *
 refine ev_of_awp tysOk mixed (fn := Tryz.f46) Tryz.func46 rfl rfl rfl ?_
 conv => whnf
 repeat' (first|((with_reducible refine AltK.r ?_);(conv=>whnf);(first|(refine CallX.mk _ _ (c1) rfl ?_)|(refine CallX.mk _ _ (c2) rfl ?_));conv=>whnf)|fail)
 refine LoopK.o3 (fun z : Nat × List Int × List Int × List (Int × Int) => z.1 ≤ x.length ∧ asgGo (accF y l) (atI l) (pitI y) vol room [] x = asgGo (accF y l) (atI l) (pitI y) z.2.1 z.2.2.1 z.2.2.2 (x.drop z.1) ∧ z.2.1.length = l.length ∧ z.2.2.1.length = y.pits.length ∧ z.2.2.2.length = z.1 ∧ (∀ q ∈ z.2.1, 0 ≤ q ∧ q ≤ 100000000000000000) ∧ (∀ q ∈ z.2.2.1, 0 ≤ q ∧ q ≤ 100000000000000000))
  (fun z => [(25, .d (iD z.1)), (7, .own 200 2 (z.2.2.2.map prD).length)]) (fun z => [(17, .row 3 1 (z.2.1.map iD) false), (22, .row 3 1 (z.2.2.1.map iD) false), (200, .row 126 2 (z.2.2.2.map prD) false)]) (fun z => x.length - z.1)
  (0, vol, room, []) ⟨by omega, rfl, e1, e2, rfl, h.vb, h.rb⟩ (by refine ⟨?_, ?_, rfl⟩<;>(repeat' (first|exact True.intro|exact rfl|(refine ⟨?_,?_⟩)|(intro h;cases h;done)|fail));done) ?_
 rintro ⟨i, v, r, sn⟩ ⟨hi, hgo, hvl, hrl, hsl, hvb, hrb⟩
 dsimp only at hi hgo hvl hrl hsl hvb hrb ⊢
 have hvm : (v.map iD).length = v.length := List.length_map _
 have hrm : (r.map iD).length = r.length := List.length_map _
 have hsm : (sn.map prD).length = sn.length := List.length_map _
 by_cases hil : i < x.length
 ·obtain ⟨a, ha⟩ := some_of_lt hil
  have hxD : (x.map alD)[(i : Int).toNat]? = some (D.agg [iD a.n, .str a.pit, iD a.vol]) := by rw [Int.toNat_natCast, List.getElem?_map, ha]; rfl
  have w1 := hBt a.n
  have w2 := ev_pitOf y a.pit (by omega)
  rw [asgGo_at ha] at hgo
  have l1 : atI l a.n < l.length := ix_lt
  have l2 : pitI y a.pit < y.pits.length := ix_lt
  by_cases hc0 : atI l a.n < 0 ∨ pitI y a.pit < 0 ∨ a.vol ≤ 0
  ·rw [if_pos hc0] at hgo
   rw [hres _ hgo]
   clear hgo hres
   generalize atI l a.n = bi at *
   generalize pitI y a.pit = pi at *
   conv => whnf
   repeat' (first|((refine PickE.mk _ hxD ?_);conv=>whnf)|((with_reducible refine Split.of_true ?_);conv=>whnf)|((with_reducible refine Split.dec (fun _=>?_) (fun _=>?_))<;>conv=>whnf)|((with_reducible refine Need.mk ?_ ?_);(first|omega|rfl|decide|(refine ⟨?_,?_⟩<;>simp<;>omega)|(simp;omega));conv=>whnf)|((with_reducible refine AltK.l ?_);(conv=>whnf);(first|(refine CallK.mk _ (w1) ?_)|(refine CallK.mk _ (w2) ?_));conv=>whnf)|(exfalso;first|omega|contradiction)|fail)
   all_goals first
    | rfl
    |(exfalso; omega)
  rw [if_neg hc0] at hgo
  obtain ⟨b, hb⟩ : ∃ b : Nat, atI l a.n = b := ⟨(atI l a.n).toNat, by omega⟩
  obtain ⟨p, hp⟩ : ∃ p : Nat, pitI y a.pit = p := ⟨(pitI y a.pit).toNat, by omega⟩
  rw [hb, hp] at hgo hc0
  rw [hb] at w1 l1
  rw [hp] at w2 l2
  simp only [Int.toNat_natCast] at hgo
  clear hb hp
  have w3 := hAc p b (by omega) (by omega)
  cases hac : accF y l p b with
  | false =>
   rw [hac, if_pos rfl] at hgo
   rw [hac] at w3
   rw [hres _ hgo]
   clear hgo hres
   conv => whnf
   repeat' (first|((refine PickE.mk _ hxD ?_);conv=>whnf)|((with_reducible first|refine Split.of_true ?_|refine Split.of_false ?_);conv=>whnf)|(with_reducible refine Split.neg ?_)|((with_reducible refine Split.dec (fun _=>?_) (fun _=>?_))<;>conv=>whnf)|((with_reducible refine Need.mk ?_ ?_);(first|omega|rfl|decide|(refine ⟨?_,?_⟩<;>simp<;>omega)|(simp;omega));conv=>whnf)|((with_reducible refine AltK.l ?_);(conv=>whnf);(first|(refine CallK.mk _ (w1) ?_)|(refine CallK.mk _ (w2) ?_)|(refine CallK.mk _ (w3) ?_));conv=>whnf)|(exfalso;first|omega|contradiction)|fail)
   all_goals first
    | rfl
    |(exfalso; omega)
  | true =>
  rw [hac, if_neg (by decide)] at hgo
  rw [hac] at w3
  conv => whnf
  repeat' (first|((refine PickE.mk _ hxD ?_);conv=>whnf)|((with_reducible refine Split.of_true ?_);conv=>whnf)|(with_reducible refine Split.neg ?_)|((with_reducible refine Split.dec (fun _=>?_) (fun _=>?_))<;>conv=>whnf)|((with_reducible refine Need.mk ?_ ?_);(first|omega|rfl|decide|(refine ⟨?_,?_⟩<;>simp<;>omega)|(simp;omega));conv=>whnf)|((with_reducible refine AltK.l ?_);(conv=>whnf);(first|(refine CallK.mk _ (w1) ?_)|(refine CallK.mk _ (w2) ?_)|(refine CallK.mk _ (w3) ?_));conv=>whnf)|(exfalso;first|omega|contradiction)|fail)
  all_goals first
   |(exfalso; omega)
   | skip
  refine LoopK.o3 (fun j : Nat => j ≤ sn.length ∧ ∀ c ∈ sn.take j, c ≠ ((b : Int), (p : Int))) (fun j => [(65, .d (iD j))]) (fun _ => []) (fun j => sn.length - j) 0 ⟨by omega, by simp⟩ (by refine ⟨?_, ?_, rfl⟩<;>(repeat' (first|exact True.intro|exact rfl|(refine ⟨?_,?_⟩)|(intro h;cases h;done)|fail));done) ?_
  rintro j ⟨hj, hjn⟩
  by_cases hjl : j < sn.length
  ·obtain ⟨c, hc⟩ := some_of_lt hjl
   have hcD : (sn.map prD)[(j : Int).toNat]? = some (D.agg [iD c.1, iD c.2]) := by rw [Int.toNat_natCast, List.getElem?_map, hc]; rfl
   by_cases hce : c = ((b : Int), (p : Int))
   ·have hin : ((b : Int), (p : Int)) ∈ sn := by rw [← hce]; exact List.mem_of_getElem? hc
    rw [if_pos hin] at hgo
    rw [hres _ hgo]
    clear hgo hres
    subst hce
    conv => whnf
    repeat' (first|((refine PickE.mk _ hcD ?_);conv=>whnf)|((with_reducible refine Split.of_true ?_);conv=>whnf)|((with_reducible refine Split.eqz (fun _=>?_) (fun _=>?_))<;>conv=>whnf)|(with_reducible refine Split.and ?_)|((with_reducible refine Split.dec (fun _=>?_) (fun _=>?_))<;>conv=>whnf)|((with_reducible refine Need.mk ?_ ?_);(first|omega|rfl|decide|(refine ⟨?_,?_⟩<;>simp<;>omega)|(simp;omega));conv=>whnf)|((with_reducible refine Wr.inr ?_ ?_);(first|omega|(simp;omega));conv=>whnf)|(exfalso;first|omega|contradiction)|fail)
    all_goals first
     | rfl
     | contradiction
     |(exfalso; omega)
   ·conv => whnf
    repeat' (first|((refine PickE.mk _ hcD ?_);conv=>whnf)|((with_reducible refine Split.of_true ?_);conv=>whnf)|((with_reducible refine Split.eqz (fun _=>?_) (fun _=>?_))<;>conv=>whnf)|(with_reducible refine Split.and ?_)|((with_reducible refine Split.dec (fun _=>?_) (fun _=>?_))<;>conv=>whnf)|((with_reducible refine Need.mk ?_ ?_);(first|omega|rfl|decide|(refine ⟨?_,?_⟩<;>simp<;>omega)|(simp;omega));conv=>whnf)|((with_reducible refine Wr.inr ?_ ?_);(first|omega|(simp;omega));conv=>whnf)|(exfalso;first|omega|contradiction)|fail)
    all_goals first
     |(exfalso; exact hce (Prod.ext (by assumption) (by assumption)))
     | skip
    all_goals refine Again.av (j + 1) ⟨by omega, fun z hz => ?_⟩ (by omega) (by refine ⟨?_, ?_, rfl⟩<;>(repeat' (first|exact True.intro|exact rfl|(refine ⟨?_,?_⟩)|(intro h;cases h;done)|fail));done)
    all_goals
     rw [take_snoc hc] at hz
     rcases List.mem_append.1 hz with hz | hz
     ·exact hjn z hz
     ·rw [List.mem_singleton.1 hz]; exact hce
  ·have hje : j = sn.length := by omega
   subst hje
   rw [List.take_length] at hjn
   have hni : ((b : Int), (p : Int)) ∉ sn := fun h => hjn _ h rfl
   rw [if_neg hni] at hgo
   obtain ⟨vb, hvb1⟩ := some_of_lt (show b < v.length by omega)
   obtain ⟨rp, hrp1⟩ := some_of_lt (show p < r.length by omega)
   have k1 := hvb vb (List.mem_of_getElem? hvb1)
   have k2 := hrb rp (List.mem_of_getElem? hrp1)
   rw [show v.getD b 0 = vb by rw [List.getD, hvb1]; rfl, show r.getD p 0 = rp by rw [List.getD, hrp1]; rfl] at hgo
   by_cases hbig : vb < a.vol ∨ rp < a.vol
   ·rw [if_pos hbig] at hgo
    rw [hres _ hgo]
    clear hgo hres
    conv => whnf
    repeat' (first|((refine PickE.map p hrp1 (by omega) ?_);conv=>whnf)|((refine PickE.map b hvb1 (by omega) ?_);conv=>whnf)|((with_reducible refine Split.of_true ?_);conv=>whnf)|((with_reducible refine Split.dec (fun _=>?_) (fun _=>?_))<;>conv=>whnf)|((with_reducible refine Need.mk ?_ ?_);(first|omega|rfl|decide|(refine ⟨?_,?_⟩<;>simp<;>omega)|(simp;omega));conv=>whnf)|((with_reducible refine Wr.inr ?_ ?_);(first|omega|(simp;omega));conv=>whnf)|(exfalso;first|omega|contradiction)|fail)
    all_goals first
     | rfl
     |(exfalso; omega)
   ·rw [if_neg hbig] at hgo
    have hmp1 : sn.map prD ++ [D.agg [iD (b : Int), iD (p : Int)]] = (sn ++ [((b : Int), (p : Int))]).map prD := by simp [prD]
    have hmp2 : (v.map iD).set (b : Int).toNat (iD (vb - a.vol)) = (v.set b (vb - a.vol)).map iD := by rw [Int.toNat_natCast, List.map_set]
    have hmp3 : (r.map iD).set (p : Int).toNat (iD (rp - a.vol)) = (r.set p (rp - a.vol)).map iD := by rw [Int.toNat_natCast, List.map_set]
    conv => whnf
    repeat' (first|((refine PickE.map p hrp1 (by omega) ?_);conv=>whnf)|((refine PickE.map b hvb1 (by omega) ?_);conv=>whnf)|((with_reducible refine Split.of_true ?_);conv=>whnf)|((with_reducible refine Split.dec (fun _=>?_) (fun _=>?_))<;>conv=>whnf)|((with_reducible refine Need.mk ?_ ?_);(first|omega|rfl|decide|(refine ⟨?_,?_⟩<;>simp<;>omega)|(simp;omega));conv=>whnf)|((with_reducible refine Wr.inr ?_ ?_);(first|omega|(simp;omega));conv=>whnf)|(exfalso;first|omega|contradiction)|fail)
    all_goals first
     |(exfalso; omega)
     | skip
    refine Again.av (i + 1, v.set b (vb - a.vol), r.set p (rp - a.vol), sn ++ [((b : Int), (p : Int))]) ⟨by dsimp only;omega, hgo, by rw [List.length_set];exact hvl, by rw [List.length_set];exact hrl, by simp;omega, fun q hq => ?_, fun q hq => ?_⟩ (by dsimp only;omega) (by refine ⟨?_, ?_, rfl⟩<;>(repeat' (first|exact True.intro|exact rfl|(refine ⟨?_,?_⟩)|(intro h;cases h;done)|(refine own_congr ?_;simp;done)|exact hmp1|exact hmp2|exact hmp3|fail));done)
    ·rcases List.mem_or_eq_of_mem_set hq with h1 | h1
     ·exact hvb q h1
     ·omega
    ·rcases List.mem_or_eq_of_mem_set hq with h1 | h1
     ·exact hrb q h1
     ·omega
 ·rw [List.drop_eq_nil_of_le (show x.length ≤ i by omega), asgGo] at hgo
  rw [hres _ hgo]
  have w4 := ev_ContainsIf v 80 (fun z => z != 0) (by omega) (fun z _ => ev_assigned1 z)
  dsimp only
  conv => whnf
  repeat' (first|((with_reducible refine Split.dec (fun _=>?_) (fun _=>?_))<;>conv=>whnf)|((with_reducible refine Need.mk ?_ ?_);(first|omega|rfl|decide|(refine ⟨?_,?_⟩<;>simp<;>omega)|(simp;omega));conv=>whnf)|((with_reducible refine AltK.l ?_);(conv=>whnf);(first|(refine CallK.mk _ (w4) ?_));conv=>whnf)|(exfalso;first|omega|contradiction)|fail)
  all_goals first
   | rfl
   |(exfalso; omega)
end Go.Proofs.Tryz
end

section
open Go Go.Shelf
namespace Go.Proofs
def ly_LyI_ren : Shelf.Ren := ⟨fun | 189 => 53 | 125 => 86 | 257 => 85 | 128 => 112 | 129 => 113 | 294 => 103 | 295 => 104 | 296 => 105 | 297 => 106 | 298 => 107 | 299 => 108 | 216 => 109 | 300 => 110 | 301 => 111 | 328 => 126 | 329 => 127 | 330 => 128 | 331 => 129 | 332 => 130 | 215 => 100 | 343 => 133 | n => n, fun | 28 => 25 | 3 => 3 | 46 => 133 | 0 => 0 | 51 => 156 | 53 => 158 | 4 => 4 | 183 => 150 | 182 => 149 | 131 => 42 | 5 => 5 | 9 => 9 | 218 => 170 | 222 => 174 | 228 => 177 | 229 => 122 | n => n, fun | n => n⟩
theorem ly_LyI : Go.Proofs.Lays.n189 Tryz.prog ly_LyI_ren where
 mixed := by kernel_rfl
 f125 := Tryz.func86.trans (congrArg some (by kernel_rfl))
 f128 := Tryz.func112.trans (congrArg some (by kernel_rfl))
 f129 := Tryz.func113.trans (congrArg some (by kernel_rfl))
 f189 := Tryz.func53.trans (congrArg some (by kernel_rfl))
 f215 := Tryz.func100.trans (congrArg some (by kernel_rfl))
 f216 := Tryz.func109.trans (congrArg some (by kernel_rfl))
 f257 := Tryz.func85.trans (congrArg some (by kernel_rfl))
 f294 := Tryz.func103.trans (congrArg some (by kernel_rfl))
 f295 := Tryz.func104.trans (congrArg some (by kernel_rfl))
 f296 := Tryz.func105.trans (congrArg some (by kernel_rfl))
 f297 := Tryz.func106.trans (congrArg some (by kernel_rfl))
 f298 := Tryz.func107.trans (congrArg some (by kernel_rfl))
 f299 := Tryz.func108.trans (congrArg some (by kernel_rfl))
 f300 := Tryz.func110.trans (congrArg some (by kernel_rfl))
 f301 := Tryz.func111.trans (congrArg some (by kernel_rfl))
 f328 := Tryz.func126.trans (congrArg some (by kernel_rfl))
 f329 := Tryz.func127.trans (congrArg some (by kernel_rfl))
 f330 := Tryz.func128.trans (congrArg some (by kernel_rfl))
 f331 := Tryz.func129.trans (congrArg some (by kernel_rfl))
 f332 := Tryz.func130.trans (congrArg some (by kernel_rfl))
 f343 := Tryz.func133.trans (congrArg some (by kernel_rfl))
 t0 := Tryz.underlying0
 a0 := Tryz.isAgg0
 z0 := Tryz.sizeOf0
 v0 := Tryz.zeroValue0
 t3 := Tryz.underlying3
 a3 := Tryz.isAgg3
 z3 := Tryz.sizeOf3
 v3 := Tryz.zeroValue3
 t4 := Tryz.underlying4
 a4 := Tryz.isAgg4
 z4 := Tryz.sizeOf4
 v4 := Tryz.zeroValue4
 t5 := Tryz.underlying5
 a5 := Tryz.isAgg5
 z5 := Tryz.sizeOf5
 v5 := Tryz.zeroValue5
 t9 := Tryz.underlying9
 a9 := Tryz.isAgg9
 z9 := Tryz.sizeOf9
 v9 := Tryz.zeroValue9
 t28 := Tryz.underlying25
 a28 := Tryz.isAgg25
 z28 := Tryz.sizeOf25
 v28 := Tryz.zeroValue25
 t46 := Tryz.underlying133
 a46 := Tryz.isAgg133
 z46 := Tryz.sizeOf133
 v46 := Tryz.zeroValue133
 t51 := Tryz.underlying156
 a51 := Tryz.isAgg156
 z51 := Tryz.sizeOf156
 v51 := Tryz.zeroValue156
 t53 := Tryz.underlying158
 a53 := Tryz.isAgg158
 z53 := Tryz.sizeOf158
 v53 := Tryz.zeroValue158
 t131 := Tryz.underlying42
 a131 := Tryz.isAgg42
 z131 := Tryz.sizeOf42
 v131 := Tryz.zeroValue42
 t182 := Tryz.underlying149
 a182 := Tryz.isAgg149
 z182 := Tryz.sizeOf149
 v182 := Tryz.zeroValue149
 t183 := Tryz.underlying150
 a183 := Tryz.isAgg150
 z183 := Tryz.sizeOf150
 v183 := Tryz.zeroValue150
 t218 := Tryz.underlying170
 a218 := Tryz.isAgg170
 z218 := Tryz.sizeOf170
 v218 := Tryz.zeroValue170
 t222 := Tryz.underlying174
 a222 := Tryz.isAgg174
 z222 := Tryz.sizeOf174
 v222 := Tryz.zeroValue174
 t228 := Tryz.underlying177
 a228 := Tryz.isAgg177
 z228 := Tryz.sizeOf177
 v228 := Tryz.zeroValue177
 t229 := Tryz.underlying122
 a229 := Tryz.isAgg122
 z229 := Tryz.sizeOf122
 v229 := Tryz.zeroValue122
end Go.Proofs
end

section
namespace Go.Proofs.Tryz
open Go Go.Vm
set_option maxRecDepth 20000
set_option maxHeartbeats 8000000
theorem sortZ_pm {l m : List Int} (h : l.Perm m) : sortZ l = sortZ m := by
 have hs : ∀ l : List Int, (sortZ l).Pairwise fun a b => a ≤ b := fun l => by
  have := List.pairwise_mergeSort (le := fun x y : Int => decide (x ≤ y)) (fun a b c h1 h2 => by simp only [decide_eq_true_eq] at *; omega) (fun a b => by simp; omega) l
  exact this.imp fun h => by simpa using h
 exact List.Perm.eq_of_pairwise (fun a b _ _ h1 h2 => by omega) (hs l) (hs m) ((List.mergeSort_perm l _).trans (h.trans (List.mergeSort_perm m _).symm))
theorem xv_SortI (l : List Int) (hl : l.length ≤ 500) : EvX Tryz.prog 53 [.own 1000 1 (l.map iD).length] [(1000, .row 3 1 (l.map iD) false)] (.tup []) [(1000, .row 3 1 ((sortZ l).map iD) false)] := by
 have h := EvX.sortInts ly_LyI 3 l (by omega) 1000
 rw [List.length_map]
 exact h
def cutS (l : List Bt) (w : Rs) (seen : List Nat) : List Int := seen.reverse.map fun j => numF l (w.bs.getD j (0, 0)).1
def cutN (l : List Bt) (w : Rs) : List Int := w.bs.map fun e => numF l e.1
theorem cutS_all {l : List Bt} {w : Rs} {seen : List Nat} (h1 : seen.Nodup) (h2 : ∀ j ∈ seen, j < w.bs.length) (h3 : ∀ j, j < w.bs.length → j ∈ seen) : (cutS l w seen).Perm (cutN l w) := by
 have hp : seen.reverse.Perm (List.range w.bs.length) := (List.reverse_perm seen).trans ((List.perm_ext_iff_of_nodup h1 List.nodup_range).2 fun j => ⟨fun h => List.mem_range.2 (h2 j h), fun h => h3 j (List.mem_range.1 h)⟩)
 have e : cutN l w = (List.range w.bs.length).map fun j => numF l (w.bs.getD j (0, 0)).1 := by
  apply List.ext_getElem
  ·simp [cutN]
  ·intro i h4 h5
   have : i < w.bs.length := by simpa [cutN] using h4
   simp [cutN, List.getD_eq_getElem?_getD, List.getElem?_eq_getElem this]
 rw [e]
 exact hp.map _
theorem nodup_lt : ∀ (n : Nat) (l : List Nat), l.Nodup → (∀ x ∈ l, x < n) → l.length ≤ n := fun _ _ h1 h2 => nodup_le h1 h2
theorem ev_AssignOk {y : Yd} {l : List Bt} (hs : smallP y) (h0 : lstE y l = 0) {n k : Nat} {fl : List (List Int)} (hn : n ≤ 1000)
 (hf : fillsF (accF y l) y.pits.length l.length n k (volF y l) (roomF y) (sortGo (priceF y) [] (List.range y.pits.length)) (flow0 y l) = some fl) (hd : doneF l.length (volF y l) fl = true) :
 Ev Tryz.prog 21 [ydD y, .sl 5 (l.map btD)] (.tup [.sl 3 ((allF y l fl l.length).map alD), .sl 1 [], iD 0]) := by
 have hO := ls_ok h0
 have hy := yd_ok hO.yd
 have hT := tk_ok hs hO
 have hSm : ∀ z ∈ sortGo (priceF y) [] (List.range y.pits.length), z < y.pits.length := fun z hz => by
  rcases sortGo_mem.1 hz with h | h
  ·simp at h
  ·exact List.mem_range.1 h
 have hT2 := fills_ok hn hSm hT hf
 have hlen := hO.len
 have hB := (xv_begin hs (by omega) h0).rn [(9, 14), (2009, 2014), (4009, 4014), (6009, 6014)] rfl
 have hS := xv_solve hT hn hf
 rw [tkX_eq hT.hf, tkX_eq hT2.hf, hd] at hS
 have hA := xv_allots hT2
 rw [tkX_eq hT2.hf] at hA
 unfold tkL at hS hA
 generalize allF y l fl l.length = xs at *
 have hS := hS.rn [(1000, 14), (1001, 2014), (1002, 4014), (1003, 6014)] rfl
 have hA := hA.rn [(1000, 14), (1001, 2014), (1002, 4014), (1003, 6014), (9, 23)] rfl
 refine ev_of_awp tysOk mixed (fn := Tryz.f21) Tryz.func21 rfl rfl rfl ?_
 conv => whnf
 repeat' (first|((with_reducible refine Split.of_true ?_);conv=>whnf)|((with_reducible refine Split.is_false ?_ ?_);decide;conv=>whnf)|((with_reducible refine AltK.r ?_);(conv=>whnf);(first|(refine CallX.mk _ _ (hB) rfl ?_)|(refine CallX.mk _ _ (hS) rfl ?_)|(refine CallX.mk _ _ (hA) rfl ?_));conv=>whnf)|fail)
 all_goals first
  | rfl
  |(exfalso; omega)
theorem ev_AssignFull {y : Yd} {l : List Bt} (hs : smallP y) (h0 : lstE y l = 0) {n k m : Nat} {fl : List (List Int)} (hn : n ≤ 1000)
 (hf : fillsF (accF y l) y.pits.length l.length n k (volF y l) (roomF y) (sortGo (priceF y) [] (List.range y.pits.length)) (flow0 y l) = some fl) (hd : doneF l.length (volF y l) fl = false)
 {w : Rs} (hw : reachF (accF y l) y.pits.length l.length m (volF y l) fl = some w) (hm : m ≤ 1000) (hwl : ∀ e ∈ w.bs, e.1 < l.length) (hwn : w.bs.length ≤ 12) :
 Ev Tryz.prog 21 [ydD y, .sl 5 (l.map btD)] (.tup [.sl 3 [], .sl 1 ((sortZ (cutN l w)).map iD), iD 19]) := by
 have hO := ls_ok h0
 have hT := tk_ok hs hO
 have hSm : ∀ z ∈ sortGo (priceF y) [] (List.range y.pits.length), z < y.pits.length := fun z hz => by
  rcases sortGo_mem.1 hz with h | h
  ·simp at h
  ·exact List.mem_range.1 h
 have hT2 := fills_ok hn hSm hT hf
 have hlen := hO.len
 have hll : (l.map btD).length = l.length := List.length_map _
 have hB := (xv_begin hs (by omega) h0).rn [(9, 14), (2009, 2014), (4009, 4014), (6009, 6014)] rfl
 have hS := xv_solve hT hn hf
 rw [tkX_eq hT.hf, tkX_eq hT2.hf, hd] at hS
 have hR := xv_reached hT2 hw hm
 rw [tkX_eq hT2.hf] at hR
 unfold tkL at hS hR
 have hS := hS.rn [(1000, 14), (1001, 2014), (1002, 4014), (1003, 6014)] rfl
 have hR := hR.rn [(1000, 14), (1001, 2014), (1002, 4014), (1003, 6014), (9, 25), (2009, 2025)] rfl
 have hml : (mapD w.bs).length = w.bs.length := List.length_map _
 refine ev_of_awp tysOk mixed (fn := Tryz.f21) Tryz.func21 rfl rfl rfl ?_
 conv => whnf
 repeat' (first|((with_reducible refine Split.of_false ?_);conv=>whnf)|((with_reducible refine Split.is_false ?_ ?_);decide;conv=>whnf)|((with_reducible refine AltK.r ?_);(conv=>whnf);(first|(refine CallX.mk _ _ (hB) rfl ?_)|(refine CallX.mk _ _ (hS) rfl ?_)|(refine CallX.mk _ _ (hR) rfl ?_));conv=>whnf)|fail)
 all_goals first
  |(exfalso; omega)
  | skip
 refine LoopK.o3 (fun seen : List Nat => seen.Nodup ∧ ∀ j ∈ seen, j < w.bs.length)
  (fun seen => [(9, .own 200 1 ((cutS l w seen).map iD).length)]) (fun seen => [(200, .row 3 1 ((cutS l w seen).map iD) false), (27, .iter (some 25) (mapD w.bs).length seen)]) (fun seen => w.bs.length - seen.length) [] ⟨.nil, fun j hj => (by cases hj)⟩ (by refine ⟨?_, ?_, rfl⟩<;>(repeat' (first|exact True.intro|exact rfl|(refine ⟨?_,?_⟩)|(intro h;cases h;done)|fail));done) ?_
 rintro seen ⟨s1, s2⟩
 dsimp only at s1 s2 ⊢
 have s3 := nodup_lt _ _ s1 s2
 have hcl : ((cutS l w seen).map iD).length = seen.length := by simp [cutS]
 have hcl3 : (cutS l w seen).length = seen.length := by simp [cutS]
 conv => whnf
 repeat' (first|((with_reducible refine Need.mk ?_ ?_);(first|omega|rfl|decide|(refine ⟨?_,?_⟩<;>simp<;>omega)|(simp;omega));conv=>whnf)|fail)
 refine NextK.mk (fun j p hjp hjs => ?_) (fun hall => ?_)
 ·conv => whnf
  have hjl : j < w.bs.length := by rw [← hml]; exact lt_of_some hjp
  obtain ⟨e, he⟩ := some_of_lt hjl
  have hp : p = (iD (e.1 : Int), iD e.2) := by
   rw [mapD, List.getElem?_map, he] at hjp
   exact (Option.some.inj hjp).symm
  subst hp
  have hel := hwl e (List.mem_of_getElem? he)
  obtain ⟨b, hb⟩ := some_of_lt hel
  have hmp1 : (cutS l w seen).map iD ++ iD b.n :: List.replicate 0 (D.int .i64 0) = (cutS l w (j :: seen)).map iD := by
   simp [cutS, numF, List.getD_eq_getElem?_getD, he, hb]
  have hcl2 : ((cutS l w (j :: seen)).map iD).length = seen.length + 1 := by simp [cutS]
  conv => whnf
  repeat' (first|((refine PickE.map e.1 hb (by omega) ?_);conv=>whnf)|((refine PickE.map j hjp rfl ?_);conv=>whnf)|((with_reducible refine Split.of_true ?_);conv=>whnf)|((with_reducible refine Need.mk ?_ ?_);(first|omega|rfl|decide|(refine ⟨?_,?_⟩<;>simp<;>omega)|(simp;omega));conv=>whnf)|fail)
  refine Again.av (j :: seen) ⟨List.nodup_cons.2 ⟨hjs, s1⟩, fun x hx => ?_⟩ ?_ (by refine ⟨?_, ?_, rfl⟩<;>(repeat' (first|exact True.intro|exact rfl|(refine ⟨?_,?_⟩)|(intro h;cases h;done)|exact hmp1|((first|refine own_congr ?_|refine int_congr ?_|skip);simp [cutS];done)|fail));done)
  ·rcases List.mem_cons.1 hx with rfl | hx
   ·exact hjl
   ·exact s2 x hx
  ·have := nodup_lt _ _ (List.nodup_cons.2 ⟨hjs, s1⟩) (fun x hx => by
    rcases List.mem_cons.1 hx with rfl | hx
    ·exact hjl
    ·exact s2 x hx)
   rw [List.length_cons] at this ⊢
   omega
 ·conv => whnf
  have hpm := sortZ_pm (cutS_all (l := l) s1 s2 fun j hj => hall j (by rw [hml]; exact hj))
  have hQ := (xv_SortI (cutS l w seen) (by rw [← List.length_map (f := iD), hcl]; omega)).rn [(1000, 200)] rfl
  rw [hpm] at hQ
  conv => whnf
  repeat' (first|((with_reducible refine Split.of_false ?_);conv=>whnf)|((with_reducible refine AltK.r ?_);(conv=>whnf);(first|(refine CallX.mk _ _ (hQ) rfl ?_));conv=>whnf)|fail)
  all_goals first
   | rfl
   |(exfalso; omega)
theorem ev_AssignRun {y : Yd} {l : List Bt} (hs : smallP y) (h0 : lstE y l = 0) : ∃ fl k w, fillsF (accF y l) y.pits.length l.length 20 k (volF y l) (roomF y) (ordF y) (flow0 y l) = some fl ∧ FlOk (accF y l) y.pits.length l.length (volF y l) (roomF y) fl ∧
 (∀ p, p < y.pits.length → Shut (accF y l) y.pits.length l.length (volF y l) (roomF y) fl p) ∧
 (doneF l.length (volF y l) fl = false → RsI (accF y l) y.pits.length l.length (volF y l) fl w ∧ haveS (accF y l) y.pits.length l.length (roomF y) (hasN w.bs) < needS l.length (volF y l) (hasN w.bs)) ∧
 Ev Tryz.prog 21 [ydD y, .sl 5 (l.map btD)] (.tup [.sl 3 (if doneF l.length (volF y l) fl = true then (allF y l fl l.length).map alD else []), .sl 1 (if doneF l.length (volF y l) fl = true then [] else (sortZ (cutN l w)).map iD), iD (if doneF l.length (volF y l) fl = true then 0 else 19)]) := by
 have hO := ls_ok h0
 have hlen := hO.len
 obtain ⟨fl, k, hk, hf, hsh⟩ := solve_run hO
 cases hd : doneF l.length (volF y l) fl with
 | true =>
  refine ⟨fl, k, ⟨[], [], []⟩, hk, hf, hsh, fun h => absurd (hd.symm.trans h) (by decide), ?_⟩
  rw [hd, if_pos rfl, if_pos rfl, if_pos rfl]
  exact ev_AssignOk hs h0 (by decide) hk hd
 | false =>
  obtain ⟨w, hw, hI, hcut⟩ := is_cut hf hsh hd (show l.length ≤ 20 by omega)
  refine ⟨fl, k, w, hk, hf, hsh, fun _ => ⟨hI, hcut⟩, ?_⟩
  rw [hd, if_neg (by decide), if_neg (by decide), if_neg (by decide)]
  exact ev_AssignFull hs h0 (by decide) hk hd hw (by decide) hI.bl (by have := hI.len; omega)
end Go.Proofs.Tryz
end

section
namespace Go.Proofs.Tryz
open Go Go.Vm
set_option maxRecDepth 20000
section
variable {acc : Nat → Nat → Bool} {P L : Nat} {pr : Nat → Int} {bs ps : List Int}
end
theorem asg_ra {y : Yd} {l : List Bt} (h : LsOk y l) (x : List Al) : asgB (accF y l) (atI l) (pitI y) (volF y l) (roomF y) x = raB (accF y l) (atI l) (pitI y) y.pits.length (volF y l) (roomF y) x := by
 have hy := yd_ok h.yd
 have e1 : (volF y l).length = l.length := (volsGo_spec h.wok ⟨hy.carL, hy.car⟩).1
 have e2 : (roomF y).length = y.pits.length := by rw [roomF, List.length_map]
 rw [Bool.eq_iff_iff, asgB_chr (P := y.pits.length) (L := l.length) atI_ok.lt (fun s => pitI_lt s) e1 e2 (fun p _ => (room_bd hy p).1), raB_chr (L := l.length) at_inj atI_ok.lt (fun s => pitI_lt s) e1 e2]
theorem asg_chr9 {y : Yd} {l : List Bt} (h : LsOk y l) (x : List Al) : asgB (accF y l) (atI l) (pitI y) (volF y l) (roomF y) x = true ↔ Chr (accF y l) (atI l) (pitI y) y.pits.length l.length (fun b => (volF y l).getD b 0) (fun p => (roomF y).getD p 0) [] x := by
 have hy := yd_ok h.yd
 exact asgB_chr (P := y.pits.length) (L := l.length) atI_ok.lt (fun s => pitI_lt s) (volsGo_spec h.wok ⟨hy.carL, hy.car⟩).1 (by rw [roomF, List.length_map]) (fun p _ => (room_bd hy p).1) x
section
variable {y : Yd} {l : List Bt} {fl : List (List Int)} {t : Tf}
theorem chr_done {x : List Al} (hf : FlOk (accF y l) y.pits.length l.length (volF y l) (roomF y) fl) (hs : ∀ p, p < y.pits.length → Shut (accF y l) y.pits.length l.length (volF y l) (roomF y) fl p)
 (hc : Chr (accF y l) (atI l) (pitI y) y.pits.length l.length (fun b => (volF y l).getD b 0) (fun p => (roomF y).getD p 0) [] x) : doneF l.length (volF y l) fl = true := by
 cases hd : doneF l.length (volF y l) fl with
 | true => rfl
 | false =>
  obtain ⟨w, -, -, h1⟩ := is_cut hf hs hd (Nat.le_refl l.length)
  obtain ⟨f2, g1, g2, -⟩ := chr_flow hc
  have := no_cut g1 (done_iff.2 fun b hb => by rw [g2 b hb]; exact Int.le_refl _) (hasN w.bs)
  omega
end
end Go.Proofs.Tryz
end
