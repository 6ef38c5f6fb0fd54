/- Texts DrB DrC DrD DqF DrE DrL DrG DrI LyI DsE DtA, joined; what is not needed is left out. -/
import Derived.Test.YtocplkidmjejbaaMgI
import Derived.Test.YtocplkidmjejbaaMgH
import Derived.Test.YtocplkidmjejbaaProg
import Derived.Shelf.Lays
import Derived.Test.YtocplkidmjejbaaMcc
section
namespace Go.Proofs.Try
open Go Go.Vm
set_option maxRecDepth 20000
/-! The flow, in plain Lean: what is reached. -/
theorem hasN_app {m : List (Nat × Int)} {k j : Nat} {v : Int} : hasN (m ++ [(k, v)]) j = true ↔ hasN m j = true ∨ k = j := by
 simp [hasN]
theorem getZ_old {m : List (Nat × Int)} {k j : Nat} {v : Int} (h : hasN m j = true) : getZ (m ++ [(k, v)]) j = getZ m j := by
 unfold getZ
 rw [List.find?_append]
 cases hf : m.find? (fun e => e.1 == j) with
 | none =>
  exfalso
  obtain ⟨e, he, hj⟩ := List.any_eq_true.1 h
  have := List.find?_eq_none.1 hf e he
  exact this hj
 | some e => rfl
theorem getZ_new {m : List (Nat × Int)} {k : Nat} {v : Int} (h : hasN m k = false) : getZ (m ++ [(k, v)]) k = v := by
 unfold getZ
 rw [List.find?_append]
 have : m.find? (fun e => e.1 == k) = none := by
  rw [List.find?_eq_none]
  intro e he
  have := List.any_eq_false.1 h e he
  exact this
 rw [this]; simp
def InW (s : Rs) (st : List (Nat × Nat × Int)) : Prop := ∀ x ∈ st, hasN s.ps x.2.1 = true ∧ getZ s.ps x.2.1 = x.1 ∧ hasN s.bs x.1 = true ∧ getZ s.bs x.1 = x.2.2
structure St9 (s s' : Rs) : Prop where
 ep : ∀ k, hasN s.ps k = true → hasN s'.ps k = true ∧ getZ s'.ps k = getZ s.ps k
 eb : ∀ k, hasN s.bs k = true → hasN s'.bs k = true ∧ getZ s'.bs k = getZ s.bs k
 q : ∃ t, s'.q = s.q ++ t ∧ ∀ b, hasN s'.bs b = true → hasN s.bs b = true ∨ b ∈ t
 cnt : s'.bs.length + s.q.length = s.bs.length + s'.q.length
theorem St9.rfl' {s : Rs} : St9 s s := ⟨fun _ h => ⟨h, rfl⟩, fun _ h => ⟨h, rfl⟩, ⟨[], by simp, fun _ h => .inl h⟩, rfl⟩
theorem St9.trans {s s' s'' : Rs} (h : St9 s s') (h' : St9 s' s'') : St9 s s'' := by
 refine ⟨fun k hk => ?_, fun k hk => ?_, ?_, ?_⟩
 ·obtain ⟨a1, a2⟩ := h.ep k hk
  obtain ⟨b1, b2⟩ := h'.ep k a1
  exact ⟨b1, b2.trans a2⟩
 ·obtain ⟨a1, a2⟩ := h.eb k hk
  obtain ⟨b1, b2⟩ := h'.eb k a1
  exact ⟨b1, b2.trans a2⟩
 ·obtain ⟨t, h1, h2⟩ := h.q
  obtain ⟨t', h1', h2'⟩ := h'.q
  refine ⟨t ++ t', by rw [h1', h1, List.append_assoc], fun b hb => ?_⟩
  rcases h2' b hb with hb | hb
  ·rcases h2 b hb with hb | hb
   ·exact .inl hb
   ·exact .inr (List.mem_append_left _ hb)
  ·exact .inr (List.mem_append_right _ hb)
 ·have := h.cnt; have := h'.cnt; omega
theorem InW.ext {s s' : Rs} {st : List (Nat × Nat × Int)} (h : InW s st) (he : St9 s s') : InW s' st := fun x hx => by
 obtain ⟨a, b, c, d⟩ := h x hx
 obtain ⟨a1, a2⟩ := he.ep _ a
 obtain ⟨c1, c2⟩ := he.eb _ c
 exact ⟨a1, a2.trans b, c1, c2.trans d⟩
structure RsI (acc : Nat → Nat → Bool) (P L : Nat) (vol : List Int) (fl : List (List Int)) (s : Rs) : Prop where
 bn : (s.bs.map (·.1)).Nodup
 bl : ∀ e ∈ s.bs, e.1 < L
 pl : ∀ p, hasN s.ps p = true → p < P
 pw : ∀ p, hasN s.ps p = true → ∃ st, Way acc P L vol fl p st ∧ InW s st
 bw : ∀ b, hasN s.bs b = true → (getZ s.bs b = -1 ∧ 0 < leftF vol fl b) ∨ ∃ (q : Nat) (st : List (Nat × Nat × Int)), getZ s.bs b = (q : Int) ∧ 0 < cellZ fl b q ∧ q < P ∧ Way acc P L vol fl q st ∧ InW s st ∧ b ∉ st.map (·.1)
 qb : ∀ b ∈ s.q, hasN s.bs b = true
 start : ∀ b, b < L → 0 < leftF vol fl b → hasN s.bs b = true
theorem hasN_mem {m : List (Nat × Int)} {k : Nat} : hasN m k = true ↔ k ∈ m.map (·.1) := by
 simp [hasN]
theorem RsI.blt {acc : Nat → Nat → Bool} {P L : Nat} {vol : List Int} {fl : List (List Int)} {s : Rs} (h : RsI acc P L vol fl s) {b : Nat} (hb : hasN s.bs b = true) : b < L := by
 obtain ⟨e, he, hj⟩ := List.any_eq_true.1 hb
 have := h.bl e he
 simp at hj
 omega
section
variable {acc : Nat → Nat → Bool} {P L : Nat} {vol : List Int} {fl : List (List Int)}
theorem stO_ok {s : Rs} {p o : Nat} (h : RsI acc P L vol fl s) (hp : hasN s.ps p = true) (ho : o < L) : RsI acc P L vol fl (stO fl p s o) ∧ St9 s (stO fl p s o) ∧ (0 < cellZ fl o p → hasN (stO fl p s o).bs o = true) := by
 unfold stO
 split
 ·rename_i hk
  exact ⟨h, .rfl', fun _ => hk⟩
 rename_i hk
 have hk : hasN s.bs o = false := by simpa using hk
 split
 ·rename_i hc
  have he : St9 s ⟨s.bs ++ [(o, (p : Int))], s.ps, s.q ++ [o]⟩ := by
   refine ⟨fun _ h => ⟨h, rfl⟩, fun k hk' => ⟨hasN_app.2 (.inl hk'), getZ_old hk'⟩, ⟨[o], rfl, fun b hb => ?_⟩, by simp only [List.length_append, List.length_singleton]; omega⟩
   rcases hasN_app.1 hb with hb | hb
   ·exact .inl hb
   ·exact .inr (by simp [hb])
  refine ⟨⟨?_, fun e he' => ?_, h.pl, fun q hq => ?_, fun b hb => ?_, fun b hb => ?_, fun b hb hl => (he.eb b (h.start b hb hl)).1⟩, he, fun _ => hasN_app.2 (.inr rfl)⟩
  ·rw [List.map_append, List.nodup_append]
   refine ⟨h.bn, by simp, fun a ha b hb => ?_⟩
   simp at hb
   subst hb
   intro e
   subst e
   rw [hasN_mem.2 ha] at hk
   cases hk
  ·rcases List.mem_append.1 he' with h1 | h1
   ·exact h.bl e h1
   ·rw [List.mem_singleton.1 h1]; exact ho
  ·obtain ⟨st, h1, h2⟩ := h.pw q hq
   exact ⟨st, h1, h2.ext he⟩
  ·rcases hasN_app.1 hb with hb | hb
   ·rcases h.bw b hb with ⟨h1, h2⟩ | ⟨q, st, h1, h2, h3, h4, h5, h6⟩
    ·exact .inl ⟨(he.eb b hb).2.trans h1, h2⟩
    ·exact .inr ⟨q, st, (he.eb b hb).2.trans h1, h2, h3, h4, h5.ext he, h6⟩
   ·subst hb
    obtain ⟨st, h1, h2⟩ := h.pw p hp
    refine .inr ⟨p, st, getZ_new hk, hc, h.pl p hp, h1, h2.ext he, fun hm => ?_⟩
    obtain ⟨x, hx, hxo⟩ := List.mem_map.1 hm
    have := (h2 x hx).2.2.1
    rw [hxo, hk] at this
    cases this
  ·rcases List.mem_append.1 hb with hb | hb
   ·exact hasN_app.2 (.inl (h.qb b hb))
   ·exact hasN_app.2 (.inr (List.mem_singleton.1 hb).symm)
 ·rename_i hc
  exact ⟨h, .rfl', fun h => absurd h hc⟩
theorem foO_ok {s : Rs} {p : Nat} (h : RsI acc P L vol fl s) (hp : hasN s.ps p = true) : ∀ i, i ≤ L → RsI acc P L vol fl ((List.range i).foldl (stO fl p) s) ∧ St9 s ((List.range i).foldl (stO fl p) s) ∧ ∀ o, o < i → 0 < cellZ fl o p → hasN ((List.range i).foldl (stO fl p) s).bs o = true
 | 0, _ => ⟨h, .rfl', fun o ho => absurd ho (by omega)⟩
 | i + 1, hi => by
  obtain ⟨h1, h2, h3⟩ := foO_ok h hp i (by omega)
  rw [range_snoc]
  obtain ⟨k1, k2, k3⟩ := stO_ok (o := i) h1 (h2.ep p hp).1 (by omega)
  refine ⟨k1, h2.trans k2, fun o ho hc => ?_⟩
  by_cases e : o = i
  ·subst e; exact k3 hc
  ·exact (k2.eb o (h3 o (by omega) hc)).1
def PX (L : Nat) (fl : List (List Int)) (s : Rs) : Prop := ∀ p, hasN s.ps p = true → ∀ o, o < L → 0 < cellZ fl o p → hasN s.bs o = true
theorem stP_ok {s : Rs} {b i : Nat} (h : RsI acc P L vol fl s) (hx : PX L fl s) (hb : hasN s.bs b = true) (hi : i < P) :
 RsI acc P L vol fl (stP acc L fl b s i) ∧ St9 s (stP acc L fl b s i) ∧ PX L fl (stP acc L fl b s i) ∧ (acc i b = true → hasN (stP acc L fl b s i).ps i = true) := by
 unfold stP
 split
 ·rename_i hk
  exact ⟨h, .rfl', hx, fun _ => hk⟩
 rename_i hk
 have hk : hasN s.ps i = false := by simpa using hk
 split
 ·rename_i hc
  exact ⟨h, .rfl', hx, fun h => by rw [hc] at h; cases h⟩
 rename_i hc
 have hc : acc i b = true := by simpa using hc
 have he : St9 s ⟨s.bs, s.ps ++ [(i, (b : Int))], s.q⟩ := ⟨fun k hk' => ⟨hasN_app.2 (.inl hk'), getZ_old hk'⟩, fun _ h => ⟨h, rfl⟩, ⟨[], by simp, fun _ h => .inl h⟩, rfl⟩
 have hbL := h.blt hb
 have h1 : RsI acc P L vol fl ⟨s.bs, s.ps ++ [(i, (b : Int))], s.q⟩ := by
  refine ⟨h.bn, h.bl, fun p hp => ?_, fun p hp => ?_, fun b' hb' => ?_, h.qb, h.start⟩
  ·rcases hasN_app.1 hp with hp | hp
   ·exact h.pl p hp
   ·subst hp; exact hi
  ·rcases hasN_app.1 hp with hp | hp
   ·obtain ⟨st, k1, k2⟩ := h.pw p hp
    exact ⟨st, k1, k2.ext he⟩
   ·subst hp
    rcases h.bw b hb with ⟨k1, k2⟩ | ⟨q, st, k1, k2, k3, k4, k5, k6⟩
    ·refine ⟨[(b, i, -1)], .base hbL hi hc k2, fun x hx' => ?_⟩
     rw [List.mem_singleton.1 hx']
     exact ⟨hasN_app.2 (.inr rfl), getZ_new hk, hb, k1⟩
    ·have hni : i ∉ st.map (·.2.1) := fun hm => by
      obtain ⟨x, hx', hxi⟩ := List.mem_map.1 hm
      have := (k5 x hx').1
      rw [hxi, hk] at this
      cases this
     refine ⟨(b, i, (q : Int)) :: st, .step hbL hi hc k3 k2 k4 k6 hni, fun x hx' => ?_⟩
     rcases List.mem_cons.1 hx' with rfl | hx'
     ·exact ⟨hasN_app.2 (.inr rfl), getZ_new hk, hb, k1⟩
     ·exact (k5.ext he) x hx'
  ·rcases h.bw b' hb' with ⟨k1, k2⟩ | ⟨q, st, k1, k2, k3, k4, k5, k6⟩
   ·exact .inl ⟨k1, k2⟩
   ·exact .inr ⟨q, st, k1, k2, k3, k4, k5.ext he, k6⟩
 have hpi : hasN (⟨s.bs, s.ps ++ [(i, (b : Int))], s.q⟩ : Rs).ps i = true := hasN_app.2 (.inr rfl)
 obtain ⟨k1, k2, k3⟩ := foO_ok h1 hpi L (Nat.le_refl _)
 refine ⟨k1, he.trans k2, fun p hp o ho hcl => ?_, fun _ => (k2.ep i hpi).1⟩
 have hps : ((List.range L).foldl (stO fl i) ⟨s.bs, s.ps ++ [(i, (b : Int))], s.q⟩).ps = s.ps ++ [(i, (b : Int))] := (stO_q L (Nat.le_refl _)).2
 rw [hps] at hp
 rcases hasN_app.1 hp with hp | hp
 ·exact (k2.eb o (hx p hp o ho hcl)).1
 ·subst hp; exact k3 o ho hcl
theorem foP_ok {s : Rs} {b : Nat} (h : RsI acc P L vol fl s) (hx : PX L fl s) (hb : hasN s.bs b = true) : ∀ i, i ≤ P →
 RsI acc P L vol fl ((List.range i).foldl (stP acc L fl b) s) ∧ St9 s ((List.range i).foldl (stP acc L fl b) s) ∧ PX L fl ((List.range i).foldl (stP acc L fl b) s) ∧ ∀ p, p < i → acc p b = true → hasN ((List.range i).foldl (stP acc L fl b) s).ps p = true
 | 0, _ => ⟨h, .rfl', hx, fun o ho => absurd ho (by omega)⟩
 | i + 1, hi => by
  obtain ⟨h1, h2, h3, h4⟩ := foP_ok h hx hb i (by omega)
  rw [range_snoc]
  obtain ⟨k1, k2, k3, k4⟩ := stP_ok (i := i) h1 h3 (h2.eb b hb).1 (by omega)
  refine ⟨k1, h2.trans k2, k3, fun p hp hc => ?_⟩
  by_cases e : p = i
  ·subst e; exact k4 hc
  ·exact (k2.ep p (h4 p (by omega) hc)).1
def PR (acc : Nat → Nat → Bool) (P : Nat) (s : Rs) : Prop := ∀ b, hasN s.bs b = true → b ∈ s.q ∨ ∀ p, p < P → acc p b = true → hasN s.ps p = true
theorem nodup_le : ∀ {L : Nat} {l : List Nat}, l.Nodup → (∀ x ∈ l, x < L) → l.length ≤ L
 | 0, l, _, h => by
  cases l with
  | nil => simp
  | cons a r => exact absurd (h a List.mem_cons_self) (by omega)
 | L + 1, l, hn, h => by
  have h1 := nodup_le (L := L) (l := l.filter (· != L)) (hn.sublist List.filter_sublist) (fun x hx => by
   rw [List.mem_filter] at hx
   have := h x hx.1
   have h2 : x ≠ L := by simpa using hx.2
   omega)
  have h2 : l.length ≤ (l.filter (· != L)).length + 1 := by
   clear h h1
   induction l with
   | nil => simp
   | cons a r ih =>
    rw [List.nodup_cons] at hn
    by_cases e : a = L
    ·subst e
     have : r.filter (· != a) = r := by
      rw [List.filter_eq_self]
      intro x hx
      have : x ≠ a := fun e => hn.1 (e ▸ hx)
      simpa using this
     simp [this]
    ·have := ih hn.2
     simp [e]; omega
  omega
theorem RsI.len {s : Rs} (h : RsI acc P L vol fl s) : s.bs.length ≤ L := by
 have := nodup_le h.bn (L := L) fun x hx => by
  obtain ⟨e, he, rfl⟩ := List.mem_map.1 hx
  exact h.bl e he
 rwa [List.length_map] at this
theorem rsGo_ok : ∀ {n : Nat} {s : Rs}, RsI acc P L vol fl s → PX L fl s → PR acc P s → s.q.length + L ≤ n + s.bs.length → ∃ w, rsGo acc P L fl n s = some w ∧ RsI acc P L vol fl w ∧ PX L fl w ∧ ∀ b, hasN w.bs b = true → ∀ p, p < P → acc p b = true → hasN w.ps p = true
 | 0, s, h, hx, hr, hn => by
  have := h.len
  have hq : s.q = [] := List.length_eq_zero_iff.1 (by omega)
  refine ⟨s, by rw [rsGo, if_pos hq], h, hx, fun b hb => ?_⟩
  rcases hr b hb with h1 | h1
  ·rw [hq] at h1; cases h1
  ·exact h1
 | n + 1, s, h, hx, hr, hn => by
  cases hq : s.q with
  | nil =>
   refine ⟨s, by rw [rsGo, hq], h, hx, fun b hb => ?_⟩
   rcases hr b hb with h1 | h1
   ·rw [hq] at h1; cases h1
   ·exact h1
  | cons b r =>
   have hb := h.qb b (by rw [hq]; simp)
   obtain ⟨k1, k2, k3, k4⟩ := foP_ok h hx hb P (Nat.le_refl _)
   have he : rsGo acc P L fl (n + 1) s = rsGo acc P L fl n ⟨((List.range P).foldl (stP acc L fl b) s).bs, ((List.range P).foldl (stP acc L fl b) s).ps, ((List.range P).foldl (stP acc L fl b) s).q.tail⟩ := by
    rw [rsGo, hq]
   rw [he]
   generalize (List.range P).foldl (stP acc L fl b) s = u at *
   obtain ⟨t, ht, hnew⟩ := k2.q
   have hcnt := k2.cnt
   rw [hq] at ht
   have htl : u.q.tail = r ++ t := by rw [ht]; rfl
   have hul : u.q.length = r.length + t.length + 1 := by rw [ht]; simp
   have hsl : s.q.length = r.length + 1 := by rw [hq]; simp
   refine rsGo_ok (s := ⟨u.bs, u.ps, u.q.tail⟩) ⟨k1.bn, k1.bl, k1.pl, k1.pw, k1.bw, fun b' hb' => k1.qb b' (List.mem_of_mem_tail hb'), k1.start⟩ k3 (fun b' hb' => ?_) ?_
   ·rcases hnew b' hb' with h1 | h1
    ·rcases hr b' h1 with h2 | h2
     ·rw [hq] at h2
      rcases List.mem_cons.1 h2 with rfl | h2
      ·exact .inr fun p hp hc => k4 p hp hc
      ·exact .inl (by show b' ∈ u.q.tail; rw [htl]; exact List.mem_append_left _ h2)
     ·exact .inr fun p hp hc => (k2.ep p (h2 p hp hc)).1
    ·exact .inl (by show b' ∈ u.q.tail; rw [htl]; exact List.mem_append_right _ h1)
   ·show u.q.tail.length + L ≤ n + u.bs.length
    rw [htl, List.length_append]; omega
theorem rs0_ok : RsI acc P L vol fl (rs0 L vol fl) ∧ PX L fl (rs0 L vol fl) ∧ PR acc P (rs0 L vol fl) ∧ (rs0 L vol fl).q.length = (rs0 L vol fl).bs.length := by
 have key : ∀ i, i ≤ L → (((List.range i).foldl (st1 vol fl) ⟨[], [], []⟩).bs.map (·.1)).Nodup ∧ (∀ e ∈ ((List.range i).foldl (st1 vol fl) ⟨[], [], []⟩).bs, e.1 < i ∧ e.2 = -1 ∧ 0 < leftF vol fl e.1) ∧ ((List.range i).foldl (st1 vol fl) ⟨[], [], []⟩).ps = [] ∧
  (((List.range i).foldl (st1 vol fl) ⟨[], [], []⟩).q = ((List.range i).foldl (st1 vol fl) ⟨[], [], []⟩).bs.map (·.1)) ∧ ∀ b, b < i → 0 < leftF vol fl b → hasN ((List.range i).foldl (st1 vol fl) ⟨[], [], []⟩).bs b = true := by
  intro i
  induction i with
  | zero => intro _; simp
  | succ i ih =>
   intro hi
   obtain ⟨h1, h2, h3, h4, h5⟩ := ih (by omega)
   rw [range_snoc, st1]
   split
   ·rename_i hl
    refine ⟨?_, fun e he => ?_, h3, by rw [List.map_append, h4]; rfl, fun b hb hlb => ?_⟩
    ·rw [List.map_append, List.nodup_append]
     refine ⟨h1, by simp, fun a ha b hb => ?_⟩
     simp at hb
     obtain ⟨e, he, rfl⟩ := List.mem_map.1 ha
     have := (h2 e he).1
     omega
    ·rcases List.mem_append.1 he with he | he
     ·have := h2 e he; exact ⟨by omega, this.2⟩
     ·rw [List.mem_singleton.1 he]; exact ⟨by omega, rfl, hl⟩
    ·by_cases e : b = i
     ·subst e; exact hasN_app.2 (.inr rfl)
     ·exact hasN_app.2 (.inl (h5 b (by omega) hlb))
   ·rename_i hl
    refine ⟨h1, fun e he => ?_, h3, h4, fun b hb hlb => ?_⟩
    ·have := h2 e he; exact ⟨by omega, this.2⟩
    ·by_cases e : b = i
     ·subst e; exact absurd hlb hl
     ·exact h5 b (by omega) hlb
 obtain ⟨h1, h2, h3, h4, h5⟩ := key L (Nat.le_refl _)
 have hr0 : (List.range L).foldl (st1 vol fl) ⟨[], [], []⟩ = rs0 L vol fl := rfl
 rw [hr0] at h1 h2 h3 h4 h5
 generalize rs0 L vol fl = s at *
 have hno : ∀ p, ¬ hasN s.ps p = true := fun p hp => by rw [h3] at hp; simp [hasN] at hp
 refine ⟨⟨h1, fun e he => (h2 e he).1, fun p hp => absurd hp (hno p), fun p hp => absurd hp (hno p), fun b hb => .inl ?_, fun b hb => ?_, h5⟩, fun p hp => absurd hp (hno p), fun b hb => .inl ?_, by rw [h4, List.length_map]⟩
 ·obtain ⟨e, he, hj⟩ := List.any_eq_true.1 hb
  have hj : e.1 = b := by simpa using hj
  refine ⟨?_, by rw [← hj]; exact (h2 e he).2.2⟩
  unfold getZ
  cases hf : s.bs.find? (fun e => e.1 == b) with
  | none => exact absurd (by simpa using hj) (List.find?_eq_none.1 hf e he)
  | some e' => exact (h2 e' (List.mem_of_find?_eq_some hf)).2.1
 ·rw [h4] at hb; exact hasN_mem.2 hb
 ·rw [h4]; exact hasN_mem.1 hb
theorem reach_ok {n : Nat} (hn : L ≤ n) : ∃ w, reachF acc P L n vol fl = some w ∧ RsI acc P L vol fl w ∧ PX L fl w ∧ ∀ b, hasN w.bs b = true → ∀ p, p < P → acc p b = true → hasN w.ps p = true := by
 obtain ⟨h1, h2, h3, h4⟩ := rs0_ok (acc := acc) (P := P) (L := L) (vol := vol) (fl := fl)
 exact rsGo_ok h1 h2 h3 (by omega)
end
end Go.Proofs.Try
end

section
namespace Go.Proofs.Try
open Go Go.Vm
set_option maxRecDepth 20000
/-! The flow, in plain Lean: one push; a pit that is filled; all pits. -/
section
variable {acc : Nat → Nat → Bool} {P L : Nat} {vol room : List Int} {fl : List (List Int)}
def fitW (vol : List Int) (fl : List (List Int)) (x : Nat × Nat × Int) : Int := if x.2.2 < 0 then leftF vol fl x.1 else cellZ fl x.1 x.2.2.toNat
def minW (vol : List Int) (fl : List (List Int)) (a : Int) : List (Nat × Nat × Int) → Int
 | [] => a
 | x :: r => minW vol fl (minI a (fitW vol fl x)) r
theorem minI_le {a b : Int} : minI a b ≤ a ∧ minI a b ≤ b := by unfold minI; split <;> omega
theorem minI_pos {a b : Int} (ha : 0 < a) (hb : 0 < b) : 0 < minI a b := by unfold minI; split <;> omega
theorem minW_le : ∀ {st : List (Nat × Nat × Int)} {a : Int}, minW vol fl a st ≤ a
 | [], _ => Int.le_refl _
 | _ :: r, _ => Int.le_trans (minW_le (st := r)) minI_le.1
theorem minW_fit : ∀ {st : List (Nat × Nat × Int)} {a : Int}, ∀ x ∈ st, minW vol fl a st ≤ fitW vol fl x
 | _ :: _, _, _, hx => by
  rw [minW]
  rcases List.mem_cons.1 hx with rfl | hx
  ·exact Int.le_trans minW_le minI_le.2
  ·exact minW_fit _ hx
theorem minW_pos : ∀ {st : List (Nat × Nat × Int)} {a : Int}, 0 < a → (∀ x ∈ st, 0 < fitW vol fl x) → 0 < minW vol fl a st
 | [], _, ha, _ => ha
 | x :: _, _, ha, h => by
  rw [minW]
  exact minW_pos (minI_pos ha (h x List.mem_cons_self)) fun z hz => h z (List.mem_cons_of_mem _ hz)
theorem Way.fit {p : Nat} {st : List (Nat × Nat × Int)} (h : Way acc P L vol fl p st) : ∀ x ∈ st, 0 < fitW vol fl x := by
 induction h with
 | base hb hp ha hl =>
  intro x hx
  rw [List.mem_singleton.1 hx, fitW, if_pos (show (-1 : Int) < 0 by decide)]; exact hl
 | step hb hp ha hq hc h h1 h2 ih =>
  intro x hx
  rcases List.mem_cons.1 hx with rfl | hx
  ·rw [fitW, if_neg (by simp)]; simpa using hc
  ·exact ih x hx
theorem fits_min {st : List (Nat × Nat × Int)} {a : Int} : Fits vol fl (minW vol fl a st) st := fun x hx => by
 have := minW_fit (vol := vol) (fl := fl) (a := a) x hx
 unfold fitW at this
 constructor
 ·intro h; rwa [if_pos h] at this
 ·intro h; rwa [if_neg (by omega)] at this
theorem path_way {w : Rs} {p : Nat} {st : List (Nat × Nat × Int)} (h : Way acc P L vol fl p st) : InW w st → ∀ {n : Nat} {a : Int}, st.length ≤ n → pathF P L vol fl w n p a = some (st.map cvW, minW vol fl a st) := by
 induction h with
 | base hb hp ha hl =>
  rename_i b p
  intro hw n a hn
  obtain ⟨w1, w2, w3, w4⟩ := hw _ List.mem_cons_self
  simp only at w1 w2 w3 w4
  cases n with
  | zero => simp at hn
  | succ n =>
   rw [pathF, w2, Int.toNat_natCast, w4, if_pos ⟨w1, by omega, by omega, w3, by omega⟩, if_pos (by decide)]
   simp [cvW, minW, fitW]
 | step hb hp ha hq hc h h1 h2 ih =>
  rename_i b p q st
  intro hw n a hn
  obtain ⟨w1, w2, w3, w4⟩ := hw _ List.mem_cons_self
  simp only at w1 w2 w3 w4
  cases n with
  | zero => simp at hn
  | succ n =>
   rw [pathF, w2, Int.toNat_natCast, w4, if_pos ⟨w1, by omega, by omega, w3, by omega⟩, if_neg (by omega), Int.toNat_natCast,
    ih (fun x hx => hw x (List.mem_cons_of_mem _ hx)) (by simpa using hn)]
   have hq0 : ¬ ((q : Int) < 0) := by omega
   simp [cvW, minW, fitW, hq0]
theorem Way.len {p : Nat} {st : List (Nat × Nat × Int)} (h : Way acc P L vol fl p st) : st.length ≤ P ∧ (st.map (·.2.1)).Nodup ∧ ∀ x ∈ st, x.2.1 < P := by
 have key : (st.map (·.2.1)).Nodup ∧ ∀ x ∈ st, x.2.1 < P := by
  induction h with
  | base hb hp => exact ⟨by simp, fun x hx => by rw [List.mem_singleton.1 hx]; exact hp⟩
  | step hb hp ha hq hc h h1 h2 ih =>
   refine ⟨List.nodup_cons.2 ⟨h2, ih.1⟩, fun x hx => ?_⟩
   rcases List.mem_cons.1 hx with rfl | hx
   ·exact hp
   ·exact ih.2 x hx
 have := nodup_le key.1 (L := P) fun x hx => by
  obtain ⟨y, hy, rfl⟩ := List.mem_map.1 hx
  exact key.2 y hy
 rw [List.length_map] at this
 exact ⟨this, key⟩
theorem Way.pit {p : Nat} {st : List (Nat × Nat × Int)} (h : Way acc P L vol fl p st) : p < P := by cases h <;> assumption
def Shut (acc : Nat → Nat → Bool) (P L : Nat) (vol room : List Int) (fl : List (List Int)) (p : Nat) : Prop := (¬ ∃ st, Way acc P L vol fl p st) ∨ freeF room fl p = 0
theorem way_reached {w : Rs} (hw : RsI acc P L vol fl w) (hx : PX L fl w) (hr : ∀ b, hasN w.bs b = true → ∀ p, p < P → acc p b = true → hasN w.ps p = true) {p : Nat} {st : List (Nat × Nat × Int)} (h : Way acc P L vol fl p st) : hasN w.ps p = true := by
 induction h with
 | base hb hp ha hl => exact hr _ (hw.start _ hb hl) _ hp ha
 | step hb hp ha hq hc h h1 h2 ih => exact hr _ (hx _ ih _ hb hc) _ hp ha
inductive Rch (acc : Nat → Nat → Bool) (P L : Nat) (fl : List (List Int)) : Nat → Nat → Prop
 | refl (p : Nat) : Rch acc P L fl p p
 | step {b p p' q : Nat} (hb : b < L) (hc : 0 < cellZ fl b p) (hp : p' < P) (ha : acc p' b = true) (h : Rch acc P L fl p' q) : Rch acc P L fl p q
def Keep (acc : Nat → Nat → Bool) (P L : Nat) (vol : List Int) (fl fl' : List (List Int)) : Prop := ∀ q, (¬ ∃ st, Way acc P L vol fl q st) → (¬ ∃ st, Way acc P L vol fl' q st) ∧ ∀ p, Rch acc P L fl' p q → Rch acc P L fl p q
theorem Keep.rfl' : Keep acc P L vol fl fl := fun _ h => ⟨h, fun _ h => h⟩
theorem Keep.trans {f1 f2 f3 : List (List Int)} (h : Keep acc P L vol f1 f2) (h' : Keep acc P L vol f2 f3) : Keep acc P L vol f1 f3 := fun q hq => by
 obtain ⟨a, b⟩ := h q hq
 obtain ⟨c, d⟩ := h' q a
 exact ⟨c, fun p hp => b p (d p hp)⟩
theorem rch_no {w : Rs} (hI : RsI acc P L vol fl w) (hX : PX L fl w) (hR : ∀ b, hasN w.bs b = true → ∀ p, p < P → acc p b = true → hasN w.ps p = true) {q : Nat} (hq : ¬ ∃ st, Way acc P L vol fl q st) {p : Nat} (h : Rch acc P L fl p q) : ¬ hasN w.ps p = true := by
 induction h with
 | refl p =>
  intro hp
  obtain ⟨st, h1, -⟩ := hI.pw p hp
  exact hq ⟨st, h1⟩
 | step hb hc hp ha h ih => exact fun hps => ih hq (hR _ (hX _ hps _ hb hc) _ hp ha)
theorem push_ok (h : FlOk acc P L vol room fl) (hv : ∀ b, vol.getD b 0 ≤ 100000000000000000) {n : Nat} (hn : L ≤ n) (hnP : P ≤ n) {pit : Nat} (hp : pit < P) :
 (pushF acc P L n vol room fl pit = some none ∧ Shut acc P L vol room fl pit) ∨
 ∃ fl' a b, pushF acc P L n vol room fl pit = some (some fl') ∧ 0 < a ∧ a ≤ freeF room fl pit ∧ b < L ∧ FlOk acc P L vol room fl' ∧ (∀ b', leftF vol fl' b' = leftF vol fl b' - if b = b' then a else 0) ∧ (∀ q, freeF room fl' q = freeF room fl q - if pit = q then a else 0) ∧
  (∀ q, q ≠ pit → Shut acc P L vol room fl q → Shut acc P L vol room fl' q) ∧ Keep acc P L vol fl fl' := by
 obtain ⟨w, hw, hI, hX, hR⟩ := reach_ok (acc := acc) (P := P) (vol := vol) (fl := fl) hn
 unfold pushF
 rw [hw]
 simp only
 by_cases hc : hasN w.ps pit = false ∨ freeF room fl pit = 0
 ·rw [if_pos hc]
  refine .inl ⟨rfl, ?_⟩
  rcases hc with hc | hc
  ·refine .inl fun ⟨st, hst⟩ => ?_
   rw [way_reached hI hX hR hst] at hc
   cases hc
  ·exact .inr hc
 rw [if_neg hc]
 rw [not_or] at hc
 have hpr : hasN w.ps pit = true := by simpa using hc.1
 obtain ⟨st, hst, hin⟩ := hI.pw pit hpr
 have hlen := hst.len.1
 rw [path_way hst hin (by omega)]
 simp only
 have hfr := h.fr pit hp
 have ha0 : 0 < minW vol fl (freeF room fl pit) st := minW_pos (by omega) hst.fit
 have hle : minW vol fl (freeF room fl pit) st ≤ freeF room fl pit := minW_le
 have hft : Fits vol fl (minW vol fl (freeF room fl pit) st) st := fits_min
 generalize minW vol fl (freeF room fl pit) st = a at *
 obtain ⟨fl', r1, r2, r3, r4, r5, r6, r7, r8⟩ := ap_way (room := room) hv ha0 hst hft h.dim h.nn h.ac h.lf
 rw [r1]
 simp only
 have hsrc := hst.src
 have hfs : a ≤ leftF vol fl (srcW st) := by
  clear r1 r2 r3 r4 r5 r6 r7 r8 hsrc hin hle hlen
  induction hst with
  | base hb hp ha hl => exact (hft _ List.mem_cons_self).1 (show (-1 : Int) < 0 by decide)
  | step hb hp ha hq hcl hs h1 h2 ih =>
   rw [srcW_cons hs.ne]
   have hqr := way_reached hI hX hR hs
   have hfl : Fits vol fl a _ := fun x hx => hft x (List.mem_cons_of_mem _ hx)
   clear ih
   have key : ∀ {q : Nat} {st : List (Nat × Nat × Int)}, Way acc P L vol fl q st → Fits vol fl a st → a ≤ leftF vol fl (srcW st) := by
    intro q st hs
    induction hs with
    | base hb hp ha hl => exact fun hf => (hf _ List.mem_cons_self).1 (show (-1 : Int) < 0 by decide)
    | step hb hp ha hq hcl hs h1 h2 ih =>
     intro hf
     rw [srcW_cons hs.ne]
     exact ih fun x hx => hf x (List.mem_cons_of_mem _ hx)
   exact key hs hfl
 have noWay : ∀ q, (¬ ∃ st, Way acc P L vol fl q st) → ¬ ∃ st, Way acc P L vol fl' q st := fun q hs ⟨st', hst'⟩ => hs (by
  have hreach : hasN w.ps q = true := by
   clear hs
   induction hst' with
   | base hb hp ha hl =>
    refine hR _ (hI.start _ hb ?_) _ hp ha
    rw [r5] at hl
    split at hl <;> omega
   | @step b p q' st'' hb hp ha hq hcl h' h1 h2 ih =>
    refine hR _ ?_ _ hp ha
    by_cases hm : b ∈ st.map (·.1)
    ·obtain ⟨x, hx, rfl⟩ := List.mem_map.1 hm
     exact (hin x hx).2.2.1
    ·rw [r7 b hm] at hcl
     exact hX _ (ih ⟨_, h'⟩) _ hb hcl
  obtain ⟨st2, h2, -⟩ := hI.pw q hreach
  exact ⟨st2, h2⟩)
 refine .inr ⟨fl', a, srcW st, rfl, ha0, hle, hsrc.1, ⟨r2, r3, r4, fun b hb => ?_, fun p' hp' => ?_⟩, r5, r6, fun q hq hs => ?_, fun q hq => ⟨noWay q hq, fun p hp => ?_⟩⟩
 ·rw [r5]
  split
  ·rename_i e; rw [← e]; omega
  ·have := h.lf b hb; omega
 ·rw [r6]
  split
  ·rename_i e; rw [← e]; omega
  ·have := h.fr p' hp'; omega
 ·rcases hs with hs | hs
  ·exact .inl (noWay q hs)
  ·refine .inr ?_
   rw [r6, if_neg (fun e => hq e.symm), hs]; rfl
 ·induction hp with
  | refl p => exact .refl p
  | @step b p p' q' hb hc hp' ha h ih =>
   have ih := ih hq
   by_cases hm : b ∈ st.map (·.1)
   ·obtain ⟨x, hx, rfl⟩ := List.mem_map.1 hm
    exact absurd (hR _ (hin x hx).2.2.1 _ hp' ha) (rch_no hI hX hR hq ih)
   ·rw [r7 b hm] at hc
    exact .step hb hc hp' ha ih
def totL (vol : List Int) (fl : List (List Int)) : Nat → Int
 | 0 => 0
 | n + 1 => totL vol fl n + leftF vol fl n
theorem totL_nn (h : ∀ b, b < L → 0 ≤ leftF vol fl b) : ∀ n, n ≤ L → 0 ≤ totL vol fl n
 | 0, _ => Int.le_refl _
 | n + 1, hn => by
  have h1 := totL_nn h n (by omega)
  have h2 := h n (by omega)
  rw [totL]; omega
theorem totL_sub {fl' : List (List Int)} {a : Int} {b : Nat} (h : ∀ b', leftF vol fl' b' = leftF vol fl b' - if b = b' then a else 0) : ∀ n, totL vol fl' n = totL vol fl n - if b < n then a else 0
 | 0 => by simp [totL]
 | n + 1 => by
  rw [totL, totL, totL_sub h n, h n]
  by_cases h1 : b < n
  ·rw [if_pos h1, if_neg (by omega), if_pos (by omega)]; omega
  ·by_cases h2 : b = n
   ·rw [if_neg h1, if_pos h2, if_pos (by omega)]; omega
   ·rw [if_neg h1, if_neg h2, if_neg (by omega)]; omega
theorem fill_run (hv : ∀ b, vol.getD b 0 ≤ 100000000000000000) {n : Nat} (hn : L ≤ n) (hnP : P ≤ n) {pit : Nat} (hp : pit < P) : ∀ (m : Nat) {fl : List (List Int)}, FlOk acc P L vol room fl → totL vol fl L ≤ m →
 ∃ fl', (∃ k, ∀ j, k ≤ j → fillF acc P L n vol room pit j fl = some fl') ∧ FlOk acc P L vol room fl' ∧ Shut acc P L vol room fl' pit ∧ (∀ q, q ≠ pit → freeF room fl' q = freeF room fl q ∧ (Shut acc P L vol room fl q → Shut acc P L vol room fl' q)) ∧ (∀ b, leftF vol fl' b ≤ leftF vol fl b) ∧ Keep acc P L vol fl fl' := by
 intro m
 induction m with
 | zero =>
  intro fl h hm
  rcases push_ok h hv hn hnP hp with ⟨h1, h2⟩ | ⟨fl', a, b, h1, ha, -, hb, h3, h4, -, -⟩
  ·refine ⟨fl, ⟨1, fun j hj => ?_⟩, h, h2, fun q _ => ⟨rfl, id⟩, fun b => Int.le_refl _, .rfl'⟩
   cases j with
   | zero => omega
   | succ j => rw [fillF, h1]
  ·exfalso
   have e1 := totL_sub h4 L
   have e2 := totL_nn h3.lf L (Nat.le_refl _)
   rw [if_pos hb] at e1
   omega
 | succ m ih =>
  intro fl h hm
  rcases push_ok h hv hn hnP hp with ⟨h1, h2⟩ | ⟨fl', a, b, h1, ha, -, hb, h3, h4, h5, h6, h7⟩
  ·refine ⟨fl, ⟨1, fun j hj => ?_⟩, h, h2, fun q _ => ⟨rfl, id⟩, fun b => Int.le_refl _, .rfl'⟩
   cases j with
   | zero => omega
   | succ j => rw [fillF, h1]
  ·have e1 := totL_sub h4 L
   rw [if_pos hb] at e1
   obtain ⟨fl2, ⟨k, hk⟩, g1, g2, g3, g4, g5⟩ := ih h3 (by omega)
   refine ⟨fl2, ⟨k + 1, fun j hj => ?_⟩, g1, g2, fun q hq => ⟨?_, fun hs => (g3 q hq).2 (h6 q hq hs)⟩, fun b' => ?_, h7.trans g5⟩
   ·cases j with
    | zero => omega
    | succ j => rw [fillF, h1]; exact hk j (by omega)
   ·rw [(g3 q hq).1, h5, if_neg (fun e => hq e.symm)]; omega
   ·have := g4 b'
    rw [h4] at this
    split at this <;> omega
end
end Go.Proofs.Try
end

section
namespace Go.Proofs.Try
open Go Go.Vm
set_option maxRecDepth 20000
/-! The flow, in plain Lean: sums; cuts. -/
def sumN : Nat → (Nat → Int) → Int
 | 0, _ => 0
 | n + 1, f => sumN n f + f n
theorem sumN_congr {f g : Nat → Int} : ∀ {n : Nat}, (∀ i, i < n → f i = g i) → sumN n f = sumN n g
 | 0, _ => rfl
 | n + 1, h => by rw [sumN, sumN, sumN_congr (n := n) (fun i hi => h i (by omega)), h n (by omega)]
theorem sumN_add {f g : Nat → Int} : ∀ {n : Nat}, sumN n (fun i => f i + g i) = sumN n f + sumN n g
 | 0 => rfl
 | n + 1 => by rw [sumN, sumN, sumN, sumN_add]; omega
theorem sumN_sub {f g : Nat → Int} : ∀ {n : Nat}, sumN n (fun i => f i - g i) = sumN n f - sumN n g
 | 0 => rfl
 | n + 1 => by rw [sumN, sumN, sumN, sumN_sub]; omega
theorem sumN_le {f g : Nat → Int} : ∀ {n : Nat}, (∀ i, i < n → f i ≤ g i) → sumN n f ≤ sumN n g
 | 0, _ => Int.le_refl _
 | n + 1, h => by
  have h1 := sumN_le (n := n) fun i hi => h i (by omega)
  have h2 := h n (by omega)
  rw [sumN, sumN]; omega
theorem sumN_zero : ∀ {n : Nat}, sumN n (fun _ => 0) = 0
 | 0 => rfl
 | n + 1 => by rw [sumN, sumN_zero]; rfl
theorem sumN_nn {f : Nat → Int} {n : Nat} (h : ∀ i, i < n → 0 ≤ f i) : 0 ≤ sumN n f := by
 have := sumN_le (f := fun _ => 0) (g := f) h
 rw [sumN_zero] at this; exact this
theorem sumN_swap {f : Nat → Nat → Int} {m : Nat} : ∀ {n : Nat}, sumN n (fun i => sumN m (f i)) = sumN m (fun j => sumN n fun i => f i j)
 | 0 => by simp only [sumN]; rw [sumN_zero]
 | n + 1 => by
  rw [sumN, sumN_swap, ← sumN_add]
  rfl
theorem sumN_ite {f : Nat → Int} {c : Bool} {n : Nat} : sumN n (fun i => if c = true then f i else 0) = if c = true then sumN n f else 0 := by
 cases c with
 | true => rfl
 | false => exact sumN_zero
theorem sumN_one {f : Nat → Int} {n i : Nat} (h : ∀ i, i < n → 0 ≤ f i) (hi : i < n) : f i ≤ sumN n f := by
 induction n with
 | zero => omega
 | succ n ih =>
  rw [sumN]
  have hn := h n (by omega)
  by_cases e : i = n
  ·subst e
   have := sumN_nn (f := f) (n := i) fun j hj => h j (by omega)
   omega
  ·have := ih (fun j hj => h j (by omega)) (by omega)
   omega
theorem sum_sumN : ∀ (l : List Int), l.sum = sumN l.length fun i => l.getD i 0 := by
 intro l
 rw [← List.reverse_reverse l]
 induction l.reverse with
 | nil => rfl
 | cons x r ih =>
  rw [List.reverse_cons, List.sum_append, List.length_append, ih]
  simp only [List.length_singleton, sumN, List.sum_cons, List.sum_nil]
  have e1 : sumN r.reverse.length (fun i => r.reverse.getD i 0) = sumN r.reverse.length (fun i => (r.reverse ++ [x]).getD i 0) := sumN_congr fun i hi => by
   rw [List.getD_eq_getElem?_getD, List.getD_eq_getElem?_getD, List.getElem?_append_left hi]
  have e2 : (r.reverse ++ [x]).getD r.reverse.length 0 = x := by simp [List.getD_eq_getElem?_getD]
  rw [e1, e2]; omega
section
variable {acc : Nat → Nat → Bool} {P L : Nat} {vol room : List Int} {fl : List (List Int)}
theorem left_sum (hd : Dim P L fl) {b : Nat} (hb : b < L) : leftF vol fl b = vol.getD b 0 - sumN P (cellZ fl b) := by
 unfold leftF
 rw [sum_sumN, hd.rowD hb]; rfl
theorem free_sum (hd : Dim P L fl) {p : Nat} : freeF room fl p = room.getD p 0 - sumN L fun b => cellZ fl b p := by
 unfold freeF
 rw [sum_sumN, List.length_map, hd.len]
 congr 1
 refine sumN_congr fun b hb => ?_
 unfold cellZ
 simp only [List.getD_eq_getElem?_getD, List.getElem?_map]
 cases fl[b]? <;> simp
def openB (acc : Nat → Nat → Bool) (L : Nat) (A : Nat → Bool) (p : Nat) : Bool := (List.range L).any fun b => A b && acc p b
def needS (L : Nat) (vol : List Int) (A : Nat → Bool) : Int := sumN L fun b => if A b = true then vol.getD b 0 else 0
def haveS (acc : Nat → Nat → Bool) (P L : Nat) (room : List Int) (A : Nat → Bool) : Int := sumN P fun p => if openB acc L A p = true then room.getD p 0 else 0
def restS (L : Nat) (vol : List Int) (fl : List (List Int)) (A : Nat → Bool) : Int := sumN L fun b => if A b = true then leftF vol fl b else 0
theorem open_of {A : Nat → Bool} {p b : Nat} (hb : b < L) (hA : A b = true) (ha : acc p b = true) : openB acc L A p = true :=
 List.any_eq_true.2 ⟨b, List.mem_range.2 hb, by rw [hA, ha]; rfl⟩
theorem out_sum (h : FlOk acc P L vol room fl) (A : Nat → Bool) : needS L vol A - restS L vol fl A = sumN P fun p => if openB acc L A p = true then sumN L (fun b => if A b = true then cellZ fl b p else 0) else 0 := by
 have e1 : needS L vol A - restS L vol fl A = sumN L fun b => sumN P fun p => if A b = true then cellZ fl b p else 0 := by
  rw [needS, restS, ← sumN_sub]
  refine sumN_congr fun b hb => ?_
  rw [sumN_ite]
  cases A b with
  | true => simp only [if_true]; rw [left_sum h.dim hb]; omega
  | false => rfl
 rw [e1, sumN_swap]
 refine sumN_congr fun p _ => ?_
 cases ho : openB acc L A p with
 | true => rfl
 | false =>
  rw [if_neg (by decide)]
  refine (sumN_congr fun b hb => ?_).trans sumN_zero
  cases hA : A b with
  | false => rfl
  | true =>
   rw [if_pos rfl]
   have := h.nn b p
   by_cases hc : 0 < cellZ fl b p
   ·rw [open_of hb hA (h.ac b p hc)] at ho; cases ho
   ·omega
theorem cut_strong (h : FlOk acc P L vol room fl) (hs : ∀ p, p < P → Shut acc P L vol room fl p) {w : Rs} (hI : RsI acc P L vol fl w) (hX : PX L fl w) (hR : ∀ b, hasN w.bs b = true → ∀ p, p < P → acc p b = true → hasN w.ps p = true) :
 needS L vol (hasN w.bs) - restS L vol fl (hasN w.bs) = haveS acc P L room (hasN w.bs) := by
 rw [out_sum h, haveS]
 refine sumN_congr fun p hp => ?_
 cases ho : openB acc L (hasN w.bs) p with
 | false => rfl
 | true =>
  rw [if_pos rfl, if_pos rfl]
  obtain ⟨b, hb, hab⟩ := List.any_eq_true.1 ho
  rw [Bool.and_eq_true] at hab
  have hps := hR b hab.1 p hp hab.2
  obtain ⟨st, hst, -⟩ := hI.pw p hps
  have hfr : freeF room fl p = 0 := by
   rcases hs p hp with h1 | h1
   ·exact absurd ⟨st, hst⟩ h1
   ·exact h1
  rw [free_sum h.dim] at hfr
  have : sumN L (fun b => if hasN w.bs b = true then cellZ fl b p else 0) = sumN L fun b => cellZ fl b p := sumN_congr fun b hb => by
   cases hA : hasN w.bs b with
   | true => rfl
   | false =>
    rw [if_neg (by decide)]
    have h0 := h.nn b p
    by_cases hc : 0 < cellZ fl b p
    ·rw [hX p hps b hb hc] at hA; cases hA
    ·omega
  omega
theorem rest_pos (h : FlOk acc P L vol room fl) {A : Nat → Bool} {b : Nat} (hb : b < L) (hA : A b = true) (hl : 0 < leftF vol fl b) : 0 < restS L vol fl A := by
 have := sumN_one (f := fun b => if A b = true then leftF vol fl b else 0) (n := L) (i := b) (fun i hi => by have := h.lf i hi; split <;> omega) hb
 rw [hA, if_pos rfl] at this
 unfold restS; omega
theorem fills_run (hv : ∀ b, vol.getD b 0 ≤ 100000000000000000) {n : Nat} (hn : L ≤ n) (hnP : P ≤ n) : ∀ {s : List Nat} {fl : List (List Int)}, (∀ p ∈ s, p < P) → FlOk acc P L vol room fl →
 ∃ fl', (∃ k, ∀ j, k ≤ j → fillsF acc P L n j vol room s fl = some fl') ∧ FlOk acc P L vol room fl' ∧ (∀ q, q ∈ s ∨ Shut acc P L vol room fl q → Shut acc P L vol room fl' q) ∧ (∀ q, q ∉ s → freeF room fl' q = freeF room fl q) ∧ (∀ b, leftF vol fl' b ≤ leftF vol fl b) ∧ Keep acc P L vol fl fl'
 | [], fl, _, h => ⟨fl, ⟨0, fun j _ => rfl⟩, h, fun q hq => hq.elim (fun h => by cases h) id, fun _ _ => rfl, fun _ => Int.le_refl _, .rfl'⟩
 | p :: s, fl, hs, h => by
  have hp := hs p List.mem_cons_self
  obtain ⟨m, hm⟩ := Int.eq_ofNat_of_zero_le (totL_nn h.lf L (Nat.le_refl _))
  obtain ⟨f1, ⟨k1, g1⟩, g2, g3, g4, g5, g6⟩ := fill_run hv hn hnP hp m h (by omega)
  obtain ⟨f2, ⟨k2, r1⟩, r2, r3, r4, r5, r6⟩ := fills_run hv hn hnP (fun q hq => hs q (List.mem_cons_of_mem _ hq)) g2
  refine ⟨f2, ⟨max k1 k2, fun j hj => ?_⟩, r2, fun q hq => r3 q ?_, fun q hq => ?_, fun b => Int.le_trans (r5 b) (g5 b), g6.trans r6⟩
  ·rw [fillsF, g1 j (by omega)]
   exact r1 j (by omega)
  ·by_cases e : q = p
   ·subst e; exact .inr g3
   ·rcases hq with hq | hq
    ·rcases List.mem_cons.1 hq with rfl | hq
     ·exact absurd rfl e
     ·exact .inl hq
    ·exact .inr ((g4 q e).2 hq)
  ·rw [List.mem_cons, not_or] at hq
   rw [r4 q hq.2, (g4 q hq.1).1]
end
end Go.Proofs.Try
end

section
namespace Go.Proofs.Try
open Go Go.Vm
set_option maxRecDepth 20000
set_option maxHeartbeats 8000000
/-! Cheapest. -/
def tkL (y : Yd) (l : List Bt) (vol room : List Int) (fl : List (List Int)) : List (Nat × Bx) :=
 [(1003, .mat 25 3 0 (fl.map fun r => some (r.map iD))), (1002, .row 3 1 (room.map iD) false), (1001, .row 3 1 (vol.map iD) false),
  (1000, .var [.d (.sl 6 (y.pits.map ptD)), .d (.sl 3 (y.bulk.map bkD)), .d (.sl 3 (y.deps.map dpD)), .d (.sl 1 (y.carry.map iD)), .d (.sl 5 (l.map btD)), .own 1001 1 (vol.map iD).length, .own 1002 1 (room.map iD).length, .own 1003 1 l.length] false)]
theorem tkX_eq {y : Yd} {l : List Bt} {vol room : List Int} {fl : List (List Int)} (h : fl.length = l.length) : tkX y l vol room fl = tkL y l vol room fl := by
 unfold tkX tkL
 rw [h]
theorem roomS_bd {y : Yd} (h : YdOk y) {p : Pt} (hp : p ∈ y.pits) : 0 ≤ roomS y p ∧ roomS y p ≤ 40000000000000 := by
 have h1 := h.room p hp
 have h2 := cap_bd (h.pit p hp).1
 have h3 := takS_bd p.name y.deps h.vol
 unfold roomS at h1 ⊢
 omega
theorem volsGo_spec {y : Yd} : ∀ {l : List Bt} {c : List Int}, (∀ b ∈ l, ∃ k f z, Wok y b k f z) → CarOk y c → (volsGo y c l).length = l.length ∧ ∀ v ∈ volsGo y c l, 0 ≤ v ∧ v ≤ 10000000000001000
 | [], _, _, _ => ⟨rfl, by simp [volsGo]⟩
 | b :: r, c, h, hc => by
  obtain ⟨k, f, z0, hW⟩ := h b (by simp)
  obtain ⟨z, hz⟩ := some_of_lt (show k < c.length by rw [hc.len]; exact lt_of_some hW.fat)
  have hzb := hc.at_ k f z hW.fat hz
  have hden := hW.fo.den
  have ek : (facI y b.soil).toNat = k := by rw [hW.ixk]; rfl
  have ef : bkAt y k = f := by rw [bkAt, List.getD, hW.fat]; rfl
  have ec : c.getD k 0 = z := by rw [List.getD, hz]; rfl
  have hcar := carN_bd (b := b) (f := f) (c := z) hW.bok hW.fo hzb
  obtain ⟨i1, i2⟩ := volsGo_spec (l := r) (c := c.set k (carN b f z)) (fun x hx => h x (List.mem_cons_of_mem _ hx)) (hc.set hW.fat hcar)
  rw [volsGo, ek, ef, ec]
  refine ⟨by rw [List.length_cons, i1, List.length_cons], fun v hv => ?_⟩
  rcases List.mem_cons.1 hv with rfl | hv
  ·obtain ⟨m1, m2⟩ := bulkN_bd hW.bok hW.fo (c := z) (by omega)
   have d1 := Int.ediv_nonneg (a := (b.bed - b.over) * f.num + z) (b := f.den) (by omega) (by omega)
   have d2 := Int.ediv_le_self (a := (b.bed - b.over) * f.num + z) f.den (by omega)
   unfold volN
   omega
  ·exact i2 v hv
theorem tk_ok {y : Yd} {l : List Bt} (hs : smallP y) (h : LsOk y l) : TkOk y l (volF y l) (roomF y) (flow0 y l) := by
 have hy := yd_ok h.yd
 obtain ⟨v1, v2⟩ := volsGo_spec h.wok ⟨hy.carL, hy.car⟩
 refine ⟨hy.pits, h.len, v1, by rw [roomF, List.length_map], by rw [flow0, List.length_map], fun r hr => ?_, fun v hv => ?_, fun v hv => ?_, ?_, hs⟩
 ·obtain ⟨b, -, rfl⟩ := List.mem_map.1 hr
  exact List.length_replicate ..
 ·have := v2 v hv; omega
 ·obtain ⟨p, hp, rfl⟩ := List.mem_map.1 hv
  have := roomS_bd hy hp; omega
 ·rw [okFl, List.all_eq_true]
  intro r hr
  obtain ⟨b, -, rfl⟩ := List.mem_map.1 hr
  rw [List.all_eq_true]
  intro x hx
  rw [(List.mem_replicate.1 hx).2]; rfl
end Go.Proofs.Try
end

section
namespace Go.Proofs.Try
open Go Go.Vm
set_option maxRecDepth 20000
/-! The flow of a yard and batches: the code's search ends; nothing more fits. -/
theorem cell_flow0 {y : Yd} {l : List Bt} {b p : Nat} : cellZ (flow0 y l) b p = 0 := by
 unfold cellZ flow0
 simp only [List.getD_eq_getElem?_getD, List.getElem?_map]
 cases l[b]? with
 | none => simp
 | some x =>
  simp only [Option.map_some, Option.getD_some, List.getElem?_replicate]
  split <;> rfl
theorem dim_flow0 {y : Yd} {l : List Bt} : Dim y.pits.length l.length (flow0 y l) := by
 refine ⟨by rw [flow0, List.length_map], fun r hr => ?_⟩
 obtain ⟨b, -, rfl⟩ := List.mem_map.1 hr
 exact List.length_replicate ..
theorem left_flow0 {y : Yd} {l : List Bt} {vol : List Int} {b : Nat} (hb : b < l.length) : leftF vol (flow0 y l) b = vol.getD b 0 := by
 rw [left_sum dim_flow0 hb, sumN_congr (g := fun _ => 0) (fun p _ => cell_flow0), sumN_zero]; omega
theorem free_flow0 {y : Yd} {l : List Bt} {room : List Int} {p : Nat} : freeF room (flow0 y l) p = room.getD p 0 := by
 rw [free_sum dim_flow0, sumN_congr (g := fun _ => 0) (fun b _ => cell_flow0), sumN_zero]; omega
theorem getD_bd9 {l : List Int} {M : Int} (h : ∀ x ∈ l, 0 ≤ x ∧ x ≤ M) (hM : 0 ≤ M) (i : Nat) : 0 ≤ l.getD i 0 ∧ l.getD i 0 ≤ M := by
 rw [List.getD_eq_getElem?_getD]
 cases hx : l[i]? with
 | none => exact ⟨Int.le_refl _, hM⟩
 | some x => exact h x (List.mem_of_getElem? hx)
theorem vol_bd {y : Yd} {l : List Bt} (h : LsOk y l) (b : Nat) : 0 ≤ (volF y l).getD b 0 ∧ (volF y l).getD b 0 ≤ 10000000000001000 := by
 have hy := yd_ok h.yd
 exact getD_bd9 (volsGo_spec h.wok ⟨hy.carL, hy.car⟩).2 (by decide) b
theorem room_bd {y : Yd} (h : YdOk y) (p : Nat) : 0 ≤ (roomF y).getD p 0 ∧ (roomF y).getD p 0 ≤ 40000000000000 :=
 getD_bd9 (fun x hx => by
  obtain ⟨q, hq, rfl⟩ := List.mem_map.1 hx
  exact roomS_bd h hq) (by decide) p
theorem fl_flow0 {y : Yd} {l : List Bt} (h : LsOk y l) : FlOk (accF y l) y.pits.length l.length (volF y l) (roomF y) (flow0 y l) :=
 ⟨dim_flow0, fun b p => by rw [cell_flow0]; exact Int.le_refl _, fun b p hc => by rw [cell_flow0] at hc; exact absurd hc (by decide),
  fun b hb => by rw [left_flow0 hb]; exact (vol_bd h b).1, fun p _ => by rw [free_flow0]; exact (room_bd (yd_ok h.yd) p).1⟩
def ordF (y : Yd) : List Nat := sortGo (priceF y) [] (List.range y.pits.length)
theorem ordF_mem {y : Yd} {p : Nat} : p ∈ ordF y ↔ p < y.pits.length := by
 rw [ordF, sortGo_mem]; simp
theorem solve_run {y : Yd} {l : List Bt} (h : LsOk y l) : ∃ fl k, fillsF (accF y l) y.pits.length l.length 20 k (volF y l) (roomF y) (ordF y) (flow0 y l) = some fl ∧ FlOk (accF y l) y.pits.length l.length (volF y l) (roomF y) fl ∧
 ∀ p, p < y.pits.length → Shut (accF y l) y.pits.length l.length (volF y l) (roomF y) fl p := by
 have hy := yd_ok h.yd
 have hP := hy.pits
 have hL := h.len
 obtain ⟨fl, ⟨k, hk⟩, h2, h3, -, -, -⟩ := fills_run (fun b => by have := vol_bd h b; omega) (n := 20) (by omega) (by omega) (s := ordF y) (fun p hp => ordF_mem.1 hp) (fl_flow0 h)
 exact ⟨fl, k, hk k (Nat.le_refl _), h2, fun p hp => h3 p (.inl (ordF_mem.2 hp))⟩
theorem done_iff {L : Nat} {vol : List Int} {fl : List (List Int)} : doneF L vol fl = true ↔ ∀ b, b < L → leftF vol fl b ≤ 0 := by
 rw [doneF, List.all_eq_true]
 constructor
 ·intro h b hb
  have := h b (List.mem_range.2 hb)
  simpa using this
 ·intro h b hb
  have := h b (List.mem_range.1 hb)
  simpa using this
theorem is_cut {acc : Nat → Nat → Bool} {P L : Nat} {vol room : List Int} {fl : List (List Int)} (h : FlOk acc P L vol room fl) (hs : ∀ p, p < P → Shut acc P L vol room fl p) (hd : doneF L vol fl = false) {n : Nat} (hn : L ≤ n) :
 ∃ w, reachF acc P L n vol fl = some w ∧ RsI acc P L vol fl w ∧ haveS acc P L room (hasN w.bs) < needS L vol (hasN w.bs) := by
 obtain ⟨w, hw, hI, hX, hR⟩ := reach_ok (acc := acc) (P := P) (vol := vol) (fl := fl) hn
 have h1 := cut_strong h hs hI hX hR
 have hex : ∃ b, b < L ∧ 0 < leftF vol fl b := by
  refine Classical.byContradiction fun hno => ?_
  have : doneF L vol fl = true := done_iff.2 fun b hb => by
   refine Classical.byContradiction fun hb' => hno ⟨b, hb, by omega⟩
  rw [this] at hd; cases hd
 obtain ⟨b, hb, hl⟩ := hex
 have h2 := rest_pos h hb (hI.start b hb hl) hl
 exact ⟨w, hw, hI, by omega⟩
end Go.Proofs.Try
end

section
namespace Go.Proofs.Try
open Go Go.Vm
set_option maxRecDepth 20000
/-! Assignments, in plain Lean: what the check and the reference compute. The batch of a number is 'ib', the pit of a name 'ip'. -/
section
variable {acc : Nat → Nat → Bool} {P L : Nat} {vol room : List Int} {ib : Int → Int} {ip : ByteArray → Int}
def sumA (q : Al → Bool) (x : List Al) : Int := (x.map fun a => if q a = true then a.vol else 0).sum
theorem sumA_cons {q : Al → Bool} {a : Al} {r : List Al} : sumA q (a :: r) = (if q a = true then a.vol else 0) + sumA q r := by simp [sumA]
structure Vld (acc : Nat → Nat → Bool) (ib : Int → Int) (ip : ByteArray → Int) (a : Al) : Prop where
 b : 0 ≤ ib a.n
 p : 0 ≤ ip a.pit
 v : 0 < a.vol
 ac : acc (ip a.pit).toNat (ib a.n).toNat = true
structure Chr (acc : Nat → Nat → Bool) (ib : Int → Int) (ip : ByteArray → Int) (P L : Nat) (vl rm : Nat → Int) (seen : List (Int × Int)) (x : List Al) : Prop where
 ok : ∀ a ∈ x, Vld acc ib ip a
 nd : (x.map fun a => (ib a.n, ip a.pit)).Nodup
 ns : ∀ a ∈ x, (ib a.n, ip a.pit) ∉ seen
 sb : ∀ b, b < L → sumA (fun a => ib a.n == (b : Int)) x = vl b
 sp : ∀ p, p < P → sumA (fun a => ip a.pit == (p : Int)) x ≤ rm p
theorem Chr.cons {vl rm : Nat → Int} {seen : List (Int × Int)} {a : Al} {r : List Al} (hib : ib a.n < L) (hip : ip a.pit < P) (hv : Vld acc ib ip a) (hns : (ib a.n, ip a.pit) ∉ seen)
 {vl' rm' : Nat → Int} (e1 : ∀ b, b < L → vl' b = vl b - if (ib a.n == (b : Int)) = true then a.vol else 0) (e2 : ∀ p, p < P → rm' p = rm p - if (ip a.pit == (p : Int)) = true then a.vol else 0) :
 Chr acc ib ip P L vl rm seen (a :: r) ↔ Chr acc ib ip P L vl' rm' (seen ++ [(ib a.n, ip a.pit)]) r := by
 constructor
 ·intro h
  have hnd := h.nd
  rw [List.map_cons, List.nodup_cons] at hnd
  refine ⟨fun c hc => h.ok c (List.mem_cons_of_mem _ hc), hnd.2, fun c hc hm => ?_, fun b hb => ?_, fun p hp => ?_⟩
  ·rcases List.mem_append.1 hm with hm | hm
   ·exact h.ns c (List.mem_cons_of_mem _ hc) hm
   ·exact hnd.1 (List.mem_map.2 ⟨c, hc, List.mem_singleton.1 hm⟩)
  ·have := h.sb b hb
   rw [sumA_cons] at this
   rw [e1 b hb]; omega
  ·have := h.sp p hp
   rw [sumA_cons] at this
   rw [e2 p hp]; omega
 ·intro h
  refine ⟨fun c hc => ?_, ?_, fun c hc hm => ?_, fun b hb => ?_, fun p hp => ?_⟩
  ·rcases List.mem_cons.1 hc with rfl | hc
   ·exact hv
   ·exact h.ok c hc
  ·rw [List.map_cons, List.nodup_cons]
   refine ⟨fun hm => ?_, h.nd⟩
   obtain ⟨c, hc, he⟩ := List.mem_map.1 hm
   exact h.ns c hc (List.mem_append.2 (.inr (List.mem_singleton.2 he)))
  ·rcases List.mem_cons.1 hc with rfl | hc
   ·exact hns hm
   ·exact h.ns c hc (List.mem_append.2 (.inl hm))
  ·have := h.sb b hb
   rw [e1 b hb] at this
   rw [sumA_cons]; omega
  ·have := h.sp p hp
   rw [e2 p hp] at this
   rw [sumA_cons]; omega
end
end Go.Proofs.Try
end

section
namespace Go.Proofs.Try
open Go Go.Vm
set_option maxRecDepth 20000
/-! The tariff, in plain terms. -/
section
variable {acc : Nat → Nat → Bool} {P L : Nat} {vol room : List Int} {pr : Nat → Int}
variable {fl : List (List Int)}
def TB (acc : Nat → Nat → Bool) (P L : Nat) (room : List Int) (pr : Nat → Int) (fl : List (List Int)) (b : Nat) (x : Int) : Prop := x = 10000 ∨ ∃ p q, p < P ∧ q < P ∧ acc p b = true ∧ Rch acc P L fl p q ∧ ((0 < freeF room fl q ∧ x = pr q) ∨ x = 10000 + pr q)
def TP (acc : Nat → Nat → Bool) (P L : Nat) (room : List Int) (pr : Nat → Int) (fl : List (List Int)) (p : Nat) (x : Int) : Prop := x = 10000 - pr p ∨ ∃ q, q < P ∧ Rch acc P L fl p q ∧ ((0 < freeF room fl q ∧ x = pr q - pr p) ∨ x = 10000 + pr q - pr p)
structure TfI (acc : Nat → Nat → Bool) (P L : Nat) (room : List Int) (pr : Nat → Int) (fl : List (List Int)) (s : Tf) : Prop where
 bl : s.bs.length = L
 pl : s.ps.length = P
 b : ∀ b, b < L → TB acc P L room pr fl b (s.bs.getD b 0) ∧ s.bs.getD b 0 ≤ 10000
 p : ∀ p, p < P → TP acc P L room pr fl p (s.ps.getD p 0) ∧ s.ps.getD p 0 ≤ 10000
 f : ∀ p, p < P → 0 < freeF room fl p → s.ps.getD p 0 ≤ 0
def TR (s s' : Tf) : Prop := s' = s ∨ (s'.again = true ∧ s'.bs.sum + s'.ps.sum < s.bs.sum + s.ps.sum)
theorem TR.trans {s s' s'' : Tf} (h : TR s s') (h' : TR s' s'') : TR s s'' := by
 rcases h with rfl | ⟨a, b⟩
 ·exact h'
 ·rcases h' with rfl | ⟨c, d⟩
  ·exact .inr ⟨a, b⟩
  ·exact .inr ⟨c, by omega⟩
theorem TR.back {s s' : Tf} (h : TR s s') (ha : s'.again = false) : s' = s := by
 rcases h with h | ⟨h, -⟩
 ·exact h
 ·rw [ha] at h; cases h
theorem getD_mem {l : List Int} {Q : Int → Prop} {n : Nat} (hl : l.length = n) (h : ∀ i, i < n → Q (l.getD i 0)) : ∀ x ∈ l, Q x := by
 intro x hx
 obtain ⟨i, hi⟩ := List.getElem?_of_mem hx
 have := h i (by rw [← hl]; exact lt_of_some hi)
 rwa [List.getD_eq_getElem?_getD, hi] at this
theorem TfI.nn {s : Tf} (h : TfI acc P L room pr fl s) (hpr : ∀ p, 0 ≤ pr p ∧ pr p ≤ 10000) (hG : ∀ p q, p < P → q < P → 0 < freeF room fl q → Rch acc P L fl p q → pr p ≤ pr q) :
 (∀ x ∈ s.bs, 0 ≤ x ∧ x ≤ 10000) ∧ ∀ x ∈ s.ps, 0 ≤ x ∧ x ≤ 10000 := by
 refine ⟨getD_mem h.bl fun b hb => ?_, getD_mem h.pl fun p hp => ?_⟩
 ·obtain ⟨h1, h2⟩ := h.b b hb
  refine ⟨?_, h2⟩
  rcases h1 with e | ⟨p, q, -, -, -, -, ⟨-, e⟩ | e⟩
  ·rw [e]; decide
  ·rw [e]; exact (hpr q).1
  ·rw [e]; have := (hpr q).1; omega
 ·obtain ⟨h1, h2⟩ := h.p p hp
  refine ⟨?_, h2⟩
  have h3 := hpr p
  rcases h1 with e | ⟨q, hq, hr, ⟨hf, e⟩ | e⟩
  ·rw [e]; omega
  ·rw [e]; have := hG p q hp hq hf hr; omega
  ·rw [e]; have := (hpr q).1; omega
end
end Go.Proofs.Try
end

section
namespace Go.Proofs.Try
open Go Go.Vm
set_option maxRecDepth 20000
/-! The order of the pits; the tariff of a yard. -/
def leP (pr : Nat → Int) (p q : Nat) : Prop := pr p < pr q ∨ (pr p = pr q ∧ p < q)
theorem leP.trans {pr : Nat → Int} {a b c : Nat} (h : leP pr a b) (h' : leP pr b c) : leP pr a c := by
 unfold leP at *; omega
end Go.Proofs.Try
end

section
/- A library function of the seat, laid (written by lay.sh). -/
open Go Go.Shelf
namespace Go.Proofs
def ly_LyI_ren : Shelf.Ren := ⟨fun | 189 => 60 | 125 => 98 | 257 => 97 | 128 => 119 | 129 => 120 | 294 => 110 | 295 => 111 | 296 => 112 | 297 => 113 | 298 => 114 | 299 => 115 | 216 => 116 | 300 => 117 | 301 => 118 | 328 => 124 | 329 => 125 | 330 => 126 | 331 => 127 | 332 => 128 | 215 => 108 | 343 => 130 | n => n, fun | 28 => 25 | 3 => 3 | 46 => 149 | 0 => 0 | 51 => 169 | 53 => 171 | 4 => 4 | 183 => 163 | 182 => 162 | 131 => 95 | 5 => 5 | 9 => 9 | 218 => 175 | 222 => 179 | 228 => 181 | 229 => 145 | n => n, fun | n => n⟩
theorem ly_LyI : Go.Proofs.Lays.n189 Try.prog ly_LyI_ren where
 mixed := by kernel_rfl
 f125 := Try.func98.trans (congrArg some (by kernel_rfl))
 f128 := Try.func119.trans (congrArg some (by kernel_rfl))
 f129 := Try.func120.trans (congrArg some (by kernel_rfl))
 f189 := Try.func60.trans (congrArg some (by kernel_rfl))
 f215 := Try.func108.trans (congrArg some (by kernel_rfl))
 f216 := Try.func116.trans (congrArg some (by kernel_rfl))
 f257 := Try.func97.trans (congrArg some (by kernel_rfl))
 f294 := Try.func110.trans (congrArg some (by kernel_rfl))
 f295 := Try.func111.trans (congrArg some (by kernel_rfl))
 f296 := Try.func112.trans (congrArg some (by kernel_rfl))
 f297 := Try.func113.trans (congrArg some (by kernel_rfl))
 f298 := Try.func114.trans (congrArg some (by kernel_rfl))
 f299 := Try.func115.trans (congrArg some (by kernel_rfl))
 f300 := Try.func117.trans (congrArg some (by kernel_rfl))
 f301 := Try.func118.trans (congrArg some (by kernel_rfl))
 f328 := Try.func124.trans (congrArg some (by kernel_rfl))
 f329 := Try.func125.trans (congrArg some (by kernel_rfl))
 f330 := Try.func126.trans (congrArg some (by kernel_rfl))
 f331 := Try.func127.trans (congrArg some (by kernel_rfl))
 f332 := Try.func128.trans (congrArg some (by kernel_rfl))
 f343 := Try.func130.trans (congrArg some (by kernel_rfl))
 t0 := Try.underlying0
 a0 := Try.isAgg0
 z0 := Try.sizeOf0
 v0 := Try.zeroValue0
 t3 := Try.underlying3
 a3 := Try.isAgg3
 z3 := Try.sizeOf3
 v3 := Try.zeroValue3
 t4 := Try.underlying4
 a4 := Try.isAgg4
 z4 := Try.sizeOf4
 v4 := Try.zeroValue4
 t5 := Try.underlying5
 a5 := Try.isAgg5
 z5 := Try.sizeOf5
 v5 := Try.zeroValue5
 t9 := Try.underlying9
 a9 := Try.isAgg9
 z9 := Try.sizeOf9
 v9 := Try.zeroValue9
 t28 := Try.underlying25
 a28 := Try.isAgg25
 z28 := Try.sizeOf25
 v28 := Try.zeroValue25
 t46 := Try.underlying149
 a46 := Try.isAgg149
 z46 := Try.sizeOf149
 v46 := Try.zeroValue149
 t51 := Try.underlying169
 a51 := Try.isAgg169
 z51 := Try.sizeOf169
 v51 := Try.zeroValue169
 t53 := Try.underlying171
 a53 := Try.isAgg171
 z53 := Try.sizeOf171
 v53 := Try.zeroValue171
 t131 := Try.underlying95
 a131 := Try.isAgg95
 z131 := Try.sizeOf95
 v131 := Try.zeroValue95
 t182 := Try.underlying162
 a182 := Try.isAgg162
 z182 := Try.sizeOf162
 v182 := Try.zeroValue162
 t183 := Try.underlying163
 a183 := Try.isAgg163
 z183 := Try.sizeOf163
 v183 := Try.zeroValue163
 t218 := Try.underlying175
 a218 := Try.isAgg175
 z218 := Try.sizeOf175
 v218 := Try.zeroValue175
 t222 := Try.underlying179
 a222 := Try.isAgg179
 z222 := Try.sizeOf179
 v222 := Try.zeroValue179
 t228 := Try.underlying181
 a228 := Try.isAgg181
 z228 := Try.sizeOf181
 v228 := Try.zeroValue181
 t229 := Try.underlying145
 a229 := Try.isAgg145
 z229 := Try.sizeOf145
 v229 := Try.zeroValue145
end Go.Proofs
end

section
namespace Go.Proofs.Try
open Go Go.Vm
set_option maxRecDepth 20000
set_option maxHeartbeats 8000000
/-! Assign. -/
theorem sortZ_pm {l m : List Int} (h : l.Perm m) : sortZ l = sortZ m := by
 have hs : ∀ l : List Int, (sortZ l).Pairwise fun a b => a ≤ b := fun l => by
  have := List.pairwise_mergeSort (le := fun x y : Int => decide (x ≤ y)) (fun a b c h1 h2 => by simp only [decide_eq_true_eq] at *; omega) (fun a b => by simp; omega) l
  exact this.imp fun h => by simpa using h
 exact List.Perm.eq_of_pairwise (fun a b _ _ h1 h2 => by omega) (hs l) (hs m) ((List.mergeSort_perm l _).trans (h.trans (List.mergeSort_perm m _).symm))
theorem xv_SortI (l : List Int) (hl : l.length ≤ 500) : EvX Try.prog 60 [.own 1000 1 (l.map iD).length] [(1000, .row 3 1 (l.map iD) false)] (.tup []) [(1000, .row 3 1 ((sortZ l).map iD) false)] := by
 have h := EvX.sortInts ly_LyI 3 l (by omega) 1000
 rw [List.length_map]
 exact h
def cutS (l : List Bt) (w : Rs) (seen : List Nat) : List Int := seen.reverse.map fun j => numF l (w.bs.getD j (0, 0)).1
def cutN (l : List Bt) (w : Rs) : List Int := w.bs.map fun e => numF l e.1
theorem cutS_all {l : List Bt} {w : Rs} {seen : List Nat} (h1 : seen.Nodup) (h2 : ∀ j ∈ seen, j < w.bs.length) (h3 : ∀ j, j < w.bs.length → j ∈ seen) : (cutS l w seen).Perm (cutN l w) := by
 have hp : seen.reverse.Perm (List.range w.bs.length) := (List.reverse_perm seen).trans ((List.perm_ext_iff_of_nodup h1 List.nodup_range).2 fun j => ⟨fun h => List.mem_range.2 (h2 j h), fun h => h3 j (List.mem_range.1 h)⟩)
 have e : cutN l w = (List.range w.bs.length).map fun j => numF l (w.bs.getD j (0, 0)).1 := by
  apply List.ext_getElem
  ·simp [cutN]
  ·intro i h4 h5
   have : i < w.bs.length := by simpa [cutN] using h4
   simp [cutN, List.getD_eq_getElem?_getD, List.getElem?_eq_getElem this]
 rw [e]
 exact hp.map _
theorem nodup_lt : ∀ (n : Nat) (l : List Nat), l.Nodup → (∀ x ∈ l, x < n) → l.length ≤ n := fun _ _ h1 h2 => nodup_le h1 h2
theorem ev_AssignOk {y : Yd} {l : List Bt} (hs : smallP y) (h0 : lstE y l = 0) {n k : Nat} {fl : List (List Int)} (hn : n ≤ 1000)
 (hf : fillsF (accF y l) y.pits.length l.length n k (volF y l) (roomF y) (sortGo (priceF y) [] (List.range y.pits.length)) (flow0 y l) = some fl) (hd : doneF l.length (volF y l) fl = true) :
 Ev Try.prog 23 [ydD y, .sl 5 (l.map btD)] (.tup [.sl 3 ((allF y l fl l.length).map alD), .sl 1 [], iD 0]) := by
 have hO := ls_ok h0
 have hy := yd_ok hO.yd
 have hT := tk_ok hs hO
 have hSm : ∀ z ∈ sortGo (priceF y) [] (List.range y.pits.length), z < y.pits.length := fun z hz => by
  rcases sortGo_mem.1 hz with h | h
  ·simp at h
  ·exact List.mem_range.1 h
 have hT2 := fills_ok hn hSm hT hf
 have hlen := hO.len
 have hB := (xv_begin hs (by omega) h0).rn [(9, 14), (2009, 2014), (4009, 4014), (6009, 6014)] rfl
 have hS := xv_solve hT hn hf
 rw [tkX_eq hT.hf, tkX_eq hT2.hf, hd] at hS
 have hA := xv_allots hT2
 rw [tkX_eq hT2.hf] at hA
 unfold tkL at hS hA
 generalize allF y l fl l.length = xs at *
 have hS := hS.rn [(1000, 14), (1001, 2014), (1002, 4014), (1003, 6014)] rfl
 have hA := hA.rn [(1000, 14), (1001, 2014), (1002, 4014), (1003, 6014), (9, 23)] rfl
 refine ev_of_awp tysOk mixed (fn := Try.f23) Try.func23 rfl rfl rfl ?_
 conv => whnf
 repeat' (first|((with_reducible refine Split.of_true ?_);conv=>whnf)|((with_reducible refine Split.is_false ?_ ?_);decide;conv=>whnf)|((with_reducible refine AltK.r ?_);(conv=>whnf);(first|(refine CallX.mk _ _ (hB) rfl ?_)|(refine CallX.mk _ _ (hS) rfl ?_)|(refine CallX.mk _ _ (hA) rfl ?_));conv=>whnf)|fail)
 all_goals first
  | rfl
  |(exfalso; omega)
theorem ev_AssignFull {y : Yd} {l : List Bt} (hs : smallP y) (h0 : lstE y l = 0) {n k m : Nat} {fl : List (List Int)} (hn : n ≤ 1000)
 (hf : fillsF (accF y l) y.pits.length l.length n k (volF y l) (roomF y) (sortGo (priceF y) [] (List.range y.pits.length)) (flow0 y l) = some fl) (hd : doneF l.length (volF y l) fl = false)
 {w : Rs} (hw : reachF (accF y l) y.pits.length l.length m (volF y l) fl = some w) (hm : m ≤ 1000) (hwl : ∀ e ∈ w.bs, e.1 < l.length) (hwn : w.bs.length ≤ 12) :
 Ev Try.prog 23 [ydD y, .sl 5 (l.map btD)] (.tup [.sl 3 [], .sl 1 ((sortZ (cutN l w)).map iD), iD 19]) := by
 have hO := ls_ok h0
 have hT := tk_ok hs hO
 have hSm : ∀ z ∈ sortGo (priceF y) [] (List.range y.pits.length), z < y.pits.length := fun z hz => by
  rcases sortGo_mem.1 hz with h | h
  ·simp at h
  ·exact List.mem_range.1 h
 have hT2 := fills_ok hn hSm hT hf
 have hlen := hO.len
 have hll : (l.map btD).length = l.length := List.length_map _
 have hB := (xv_begin hs (by omega) h0).rn [(9, 14), (2009, 2014), (4009, 4014), (6009, 6014)] rfl
 have hS := xv_solve hT hn hf
 rw [tkX_eq hT.hf, tkX_eq hT2.hf, hd] at hS
 have hR := xv_reached hT2 hw hm
 rw [tkX_eq hT2.hf] at hR
 unfold tkL at hS hR
 have hS := hS.rn [(1000, 14), (1001, 2014), (1002, 4014), (1003, 6014)] rfl
 have hR := hR.rn [(1000, 14), (1001, 2014), (1002, 4014), (1003, 6014), (9, 25), (2009, 2025)] rfl
 have hml : (mapD w.bs).length = w.bs.length := List.length_map _
 refine ev_of_awp tysOk mixed (fn := Try.f23) Try.func23 rfl rfl rfl ?_
 conv => whnf
 repeat' (first|((with_reducible refine Split.of_false ?_);conv=>whnf)|((with_reducible refine Split.is_false ?_ ?_);decide;conv=>whnf)|((with_reducible refine AltK.r ?_);(conv=>whnf);(first|(refine CallX.mk _ _ (hB) rfl ?_)|(refine CallX.mk _ _ (hS) rfl ?_)|(refine CallX.mk _ _ (hR) rfl ?_));conv=>whnf)|fail)
 all_goals first
  |(exfalso; omega)
  | skip
 refine LoopK.o3 (fun seen : List Nat => seen.Nodup ∧ ∀ j ∈ seen, j < w.bs.length)
  (fun seen => [(9, .own 200 1 ((cutS l w seen).map iD).length)]) (fun seen => [(200, .row 3 1 ((cutS l w seen).map iD) false), (27, .iter (some 25) (mapD w.bs).length seen)]) (fun seen => w.bs.length - seen.length) [] ⟨.nil, fun j hj => (by cases hj)⟩ (by refine ⟨?_, ?_, rfl⟩<;>(repeat' (first|exact True.intro|exact rfl|(refine ⟨?_,?_⟩)|(intro h;cases h;done)|fail));done) ?_
 rintro seen ⟨s1, s2⟩
 dsimp only at s1 s2 ⊢
 have s3 := nodup_lt _ _ s1 s2
 have hcl : ((cutS l w seen).map iD).length = seen.length := by simp [cutS]
 have hcl3 : (cutS l w seen).length = seen.length := by simp [cutS]
 conv => whnf
 repeat' (first|((with_reducible refine Need.mk ?_ ?_);(first|omega|rfl|decide|(refine ⟨?_,?_⟩<;>simp<;>omega)|(simp;omega));conv=>whnf)|fail)
 refine NextK.mk (fun j p hjp hjs => ?_) (fun hall => ?_)
 ·conv => whnf
  have hjl : j < w.bs.length := by rw [← hml]; exact lt_of_some hjp
  obtain ⟨e, he⟩ := some_of_lt hjl
  have hp : p = (iD (e.1 : Int), iD e.2) := by
   rw [mapD, List.getElem?_map, he] at hjp
   exact (Option.some.inj hjp).symm
  subst hp
  have hel := hwl e (List.mem_of_getElem? he)
  obtain ⟨b, hb⟩ := some_of_lt hel
  have hmp1 : (cutS l w seen).map iD ++ iD b.n :: List.replicate 0 (D.int .i64 0) = (cutS l w (j :: seen)).map iD := by
   simp [cutS, numF, List.getD_eq_getElem?_getD, he, hb]
  have hcl2 : ((cutS l w (j :: seen)).map iD).length = seen.length + 1 := by simp [cutS]
  conv => whnf
  repeat' (first|((refine PickE.map e.1 hb (by omega) ?_);conv=>whnf)|((refine PickE.map j hjp rfl ?_);conv=>whnf)|((with_reducible refine Split.of_true ?_);conv=>whnf)|((with_reducible refine Need.mk ?_ ?_);(first|omega|rfl|decide|(refine ⟨?_,?_⟩<;>simp<;>omega)|(simp;omega));conv=>whnf)|fail)
  refine Again.av (j :: seen) ⟨List.nodup_cons.2 ⟨hjs, s1⟩, fun x hx => ?_⟩ ?_ (by refine ⟨?_, ?_, rfl⟩<;>(repeat' (first|exact True.intro|exact rfl|(refine ⟨?_,?_⟩)|(intro h;cases h;done)|exact hmp1|((first|refine own_congr ?_|refine int_congr ?_|skip);simp [cutS];done)|fail));done)
  ·rcases List.mem_cons.1 hx with rfl | hx
   ·exact hjl
   ·exact s2 x hx
  ·have := nodup_lt _ _ (List.nodup_cons.2 ⟨hjs, s1⟩) (fun x hx => by
    rcases List.mem_cons.1 hx with rfl | hx
    ·exact hjl
    ·exact s2 x hx)
   rw [List.length_cons] at this ⊢
   omega
 ·conv => whnf
  have hpm := sortZ_pm (cutS_all (l := l) s1 s2 fun j hj => hall j (by rw [hml]; exact hj))
  have hQ := (xv_SortI (cutS l w seen) (by rw [← List.length_map (f := iD), hcl]; omega)).rn [(1000, 200)] rfl
  rw [hpm] at hQ
  conv => whnf
  repeat' (first|((with_reducible refine Split.of_false ?_);conv=>whnf)|((with_reducible refine AltK.r ?_);(conv=>whnf);(first|(refine CallX.mk _ _ (hQ) rfl ?_));conv=>whnf)|fail)
  all_goals first
   | rfl
   |(exfalso; omega)
theorem ev_AssignRun {y : Yd} {l : List Bt} (hs : smallP y) (h0 : lstE y l = 0) : ∃ fl k w, fillsF (accF y l) y.pits.length l.length 20 k (volF y l) (roomF y) (ordF y) (flow0 y l) = some fl ∧ FlOk (accF y l) y.pits.length l.length (volF y l) (roomF y) fl ∧
 (∀ p, p < y.pits.length → Shut (accF y l) y.pits.length l.length (volF y l) (roomF y) fl p) ∧
 (doneF l.length (volF y l) fl = false → RsI (accF y l) y.pits.length l.length (volF y l) fl w ∧ haveS (accF y l) y.pits.length l.length (roomF y) (hasN w.bs) < needS l.length (volF y l) (hasN w.bs)) ∧
 Ev Try.prog 23 [ydD y, .sl 5 (l.map btD)] (.tup [.sl 3 (if doneF l.length (volF y l) fl = true then (allF y l fl l.length).map alD else []), .sl 1 (if doneF l.length (volF y l) fl = true then [] else (sortZ (cutN l w)).map iD), iD (if doneF l.length (volF y l) fl = true then 0 else 19)]) := by
 have hO := ls_ok h0
 have hlen := hO.len
 obtain ⟨fl, k, hk, hf, hsh⟩ := solve_run hO
 cases hd : doneF l.length (volF y l) fl with
 | true =>
  refine ⟨fl, k, ⟨[], [], []⟩, hk, hf, hsh, fun h => absurd (hd.symm.trans h) (by decide), ?_⟩
  rw [hd, if_pos rfl, if_pos rfl, if_pos rfl]
  exact ev_AssignOk hs h0 (by decide) hk hd
 | false =>
  obtain ⟨w, hw, hI, hcut⟩ := is_cut hf hsh hd (show l.length ≤ 20 by omega)
  refine ⟨fl, k, w, hk, hf, hsh, fun _ => ⟨hI, hcut⟩, ?_⟩
  rw [hd, if_neg (by decide), if_neg (by decide), if_neg (by decide)]
  exact ev_AssignFull hs h0 (by decide) hk hd hw (by decide) hI.bl (by have := hI.len; omega)
end Go.Proofs.Try
end

section
namespace Go.Proofs.Try
open Go Go.Vm
set_option maxRecDepth 20000
/-! Yards whose pits have other tops or prices: plain law. -/
structure Sim (y z : Yd) : Prop where
 len : z.pits.length = y.pits.length
 pit : ∀ (i : Nat) p q, y.pits[i]? = some p → z.pits[i]? = some q → q.name = p.name ∧ q.cls = p.cls
 bulk : z.bulk = y.bulk
 deps : z.deps = y.deps
 carry : z.carry = y.carry
section
variable {y z : Yd} {l : List Bt}
theorem Sim.fac (h : Sim y z) (s : ByteArray) : facI z s = facI y s := by rw [facI, facI, h.bulk]
theorem Sim.bat (h : Sim y z) (b : Bt) : batErr z b = batErr y b := by rw [batErr, batErr, h.fac]
theorem Sim.ls_eq (h : Sim y z) (q : Int → Bool) : ∀ (r o : List Bt), lsGo z q o r = lsGo y q o r
 | [], _ => rfl
 | b :: r, o => by rw [lsGo, lsGo, h.bat, h.ls_eq q r]
theorem Sim.lst (h : Sim y z) (hy : ydErr y = 0) (hz : ydErr z = 0) : lstE z l = lstE y l := by
 have e : depB z = depB y := funext fun n => by rw [depB, depB, h.deps]
 rw [lstE, lstE, lsErr, lsErr, hy, hz, h.ls_eq, e]
theorem Sim.vols (h : Sim y z) : ∀ (r : List Bt) (c : List Int), volsGo z c r = volsGo y c r
 | [], _ => rfl
 | b :: r, c => by
  have e : ∀ k, bkAt z k = bkAt y k := fun k => by rw [bkAt, bkAt, h.bulk]
  rw [volsGo, volsGo, h.fac, e, h.vols r]
theorem Sim.vol (h : Sim y z) : volF z l = volF y l := by rw [volF, volF, h.carry, h.vols]
theorem Sim.acc (h : Sim y z) : accF z l = accF y l := by
 funext p b
 unfold accF
 cases h1 : y.pits[p]? with
 | none =>
  have : z.pits[p]? = none := by
   rw [List.getElem?_eq_none_iff] at h1 ⊢; have := h.len; omega
  rw [this]
 | some q =>
  obtain ⟨r, hr⟩ := some_of_lt (show p < z.pits.length by have := lt_of_some h1; have := h.len; omega)
  rw [hr]
  have e := (h.pit p q r h1 hr).2
  cases l[b]? with
  | none => rfl
  | some x => simp only [accB, e]
theorem Sim.flow (h : Sim y z) {fl : List (List Int)} (hf : FlOk (accF z l) z.pits.length l.length (volF z l) (roomF z) fl) (hr : ∀ p, p < y.pits.length → (roomF z).getD p 0 ≤ (roomF y).getD p 0) :
 FlOk (accF y l) y.pits.length l.length (volF y l) (roomF y) fl := by
 rw [h.acc, h.vol, h.len] at hf
 refine ⟨hf.dim, hf.nn, hf.ac, hf.lf, fun p hp => ?_⟩
 have h1 := hf.fr p hp
 rw [free_sum hf.dim] at h1 ⊢
 have := hr p hp
 omega
end
/-! A pit that is filled less high. -/
section
variable {y : Yd} {l : List Bt} {c d : Nat → Int}
end
end Go.Proofs.Try
end
