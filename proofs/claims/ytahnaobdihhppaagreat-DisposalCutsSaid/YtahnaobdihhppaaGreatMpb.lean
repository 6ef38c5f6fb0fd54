/- Texts DrA DrB DrC DrD DqF DrE DrK DrF DrG DrH DrI DrM DsB DsC LyI, joined; what is not needed is left out. -/
import Derived.Test.YtahnaobdihhppaaGreatMgI
import Derived.Test.YtahnaobdihhppaaGreatMgH
import Derived.Test.YtahnaobdihhppaaGreatProg
import Derived.Shelf.Lays
import Derived.Test.YtahnaobdihhppaaGreatMpa
section
namespace Go.Proofs.Tryz
open Go Go.Vm
set_option maxRecDepth 20000
theorem sum_set9 : ∀ {l : List Int} {i : Nat} {v : Int}, i < l.length → (l.set i v).sum = l.sum - l.getD i 0 + v
 | [], _, _, h => absurd h (by simp)
 | x :: r, 0, v, _ => by simp; omega
 | x :: r, i + 1, v, h => by
  have ih := sum_set9 (l := r) (i := i) (v := v) (by simpa using h)
  simp only [List.set_cons_succ, List.sum_cons, ih]
  have : (x :: r).getD (i + 1) 0 = r.getD i 0 := by simp [List.getD]
  rw [this]; omega
theorem getD_set9 {α : Type} {l : List α} {k j : Nat} {v d : α} (hk : k < l.length) : (l.set k v).getD j d = if k = j then v else l.getD j d := by
 rw [List.getD, List.getElem?_set]
 by_cases e : k = j
 ·subst e; rw [if_pos rfl, if_pos hk, if_pos rfl]; rfl
 ·rw [if_neg e, if_neg e]; rfl
theorem Dim.rowD {P L : Nat} {fl : List (List Int)} (h : Dim P L fl) {b : Nat} (hb : b < L) : (fl.getD b []).length = P := by
 rw [List.getD, List.getElem?_eq_getElem (by rw [h.len]; exact hb)]
 exact h.row _ (List.getElem_mem _)
theorem cell_add {P L : Nat} {fl : List (List Int)} (h : Dim P L fl) {b p b' p' : Nat} {a : Int} (hb : b < L) (hp : p < P) : cellZ (addF fl b p a) b' p' = cellZ fl b' p' + if b = b' ∧ p = p' then a else 0 := by
 unfold cellZ addF
 rw [getD_set9 (by rw [h.len]; exact hb)]
 by_cases e : b = b'
 ·subst e
  rw [if_pos rfl, getD_set9 (by rw [h.rowD hb]; exact hp)]
  by_cases e2 : p = p'
  ·subst e2; rw [if_pos rfl, if_pos ⟨rfl, rfl⟩]; rfl
  ·rw [if_neg e2, if_neg (fun h => e2 h.2)]; omega
 ·rw [if_neg e, if_neg (fun h => e h.1)]; omega
theorem left_add {P L : Nat} {vol : List Int} {fl : List (List Int)} (h : Dim P L fl) {b p b' : Nat} {a : Int} (hb : b < L) (hp : p < P) : leftF vol (addF fl b p a) b' = leftF vol fl b' - if b = b' then a else 0 := by
 unfold leftF addF
 rw [getD_set9 (by rw [h.len]; exact hb)]
 by_cases e : b = b'
 ·subst e
  rw [if_pos rfl, if_pos rfl, sum_set9 (by rw [h.rowD hb]; exact hp)]
  unfold cellZ; omega
 ·rw [if_neg e, if_neg e]; omega
theorem free_add {P L : Nat} {room : List Int} {fl : List (List Int)} (h : Dim P L fl) {b p p' : Nat} {a : Int} (hb : b < L) (hp : p < P) : freeF room (addF fl b p a) p' = freeF room fl p' - if p = p' then a else 0 := by
 unfold freeF addF
 rw [List.map_set, sum_set9 (by rw [List.length_map, h.len]; exact hb)]
 have e1 : (fl.map fun r => r.getD p' 0).getD b 0 = cellZ fl b p' := by
  unfold cellZ
  simp only [List.getD_eq_getElem?_getD, List.getElem?_map]
  cases fl[b]? <;> simp
 rw [e1, getD_set9 (by rw [h.rowD hb]; exact hp)]
 by_cases e : p = p'
 ·subst e; rw [if_pos rfl, if_pos rfl]; omega
 ·rw [if_neg e, if_neg e]; unfold cellZ; omega
structure FlOk (acc : Nat → Nat → Bool) (P L : Nat) (vol room : List Int) (fl : List (List Int)) : Prop where
 dim : Dim P L fl
 nn : ∀ b p, 0 ≤ cellZ fl b p
 ac : ∀ b p, 0 < cellZ fl b p → acc p b = true
 lf : ∀ b, b < L → 0 ≤ leftF vol fl b
 fr : ∀ p, p < P → 0 ≤ freeF room fl p
theorem mem_le_sum {l : List Int} (h : ∀ x ∈ l, 0 ≤ x) {x : Int} (hx : x ∈ l) : x ≤ l.sum := by
 induction l with
 | nil => cases hx
 | cons y r ih =>
  have hr := sum_nn (l := r) fun z hz => h z (List.mem_cons_of_mem _ hz)
  have hy := h y List.mem_cons_self
  rw [List.sum_cons]
  rcases List.mem_cons.1 hx with rfl | hx
  ·omega
  ·have := ih (fun z hz => h z (List.mem_cons_of_mem _ hz)) hx; omega
theorem okFl_of {P L : Nat} {vol : List Int} {fl : List (List Int)} (hd : Dim P L fl) (hn : ∀ b p, 0 ≤ cellZ fl b p) (hl : ∀ b, b < L → 0 ≤ leftF vol fl b) (hv : ∀ b, vol.getD b 0 ≤ 100000000000000000) : okFl fl = true := by
 rw [okFl, List.all_eq_true]
 intro r hr
 rw [List.all_eq_true]
 intro x hx
 obtain ⟨b, hb⟩ := List.getElem?_of_mem hr
 have hbl : b < L := by rw [← hd.len]; exact lt_of_some hb
 have hrD : fl.getD b [] = r := by rw [List.getD, hb]; rfl
 have hnr : ∀ z ∈ r, 0 ≤ z := fun z hz => by
  obtain ⟨p, hp⟩ := List.getElem?_of_mem hz
  have := hn b p
  rw [cellZ, hrD, List.getD, hp] at this
  exact this
 have h1 := mem_le_sum hnr hx
 have h2 := hl b hbl
 have h3 := hv b
 have h4 := hnr x hx
 unfold leftF at h2
 rw [hrD] at h2
 simp [okZ]; omega
/-! Ways. -/
def cvW (x : Nat × Nat × Int) : Int × Int × Int := ((x.1 : Int), (x.2.1 : Int), x.2.2)
theorem stepOk_cv {P L b p : Nat} {f : Int} (hb : b < L) (hp : p < P) (hf : f < P) : stepOk P L (cvW (b, p, f)) = true := by
 simp only [stepOk, cvW, Bool.and_eq_true]
 exact ⟨⟨⟨⟨decide_eq_true (by omega), decide_eq_true (by omega)⟩, decide_eq_true (by omega)⟩, decide_eq_true (by omega)⟩, decide_eq_true hf⟩
def Fits (vol : List Int) (fl : List (List Int)) (a : Int) (st : List (Nat × Nat × Int)) : Prop := ∀ x ∈ st, (x.2.2 < 0 → a ≤ leftF vol fl x.1) ∧ (0 ≤ x.2.2 → a ≤ cellZ fl x.1 x.2.2.toNat)
def srcW : List (Nat × Nat × Int) → Nat
 | [] => 0
 | [x] => x.1
 | _ :: r => srcW r
theorem srcW_cons {x : Nat × Nat × Int} {st : List (Nat × Nat × Int)} (h : st ≠ []) : srcW (x :: st) = srcW st := by
 cases st with
 | nil => exact absurd rfl h
 | cons y r => rfl
theorem Way.src {acc : Nat → Nat → Bool} {P L : Nat} {vol : List Int} {fl : List (List Int)} {p : Nat} {st : List (Nat × Nat × Int)} (h : Way acc P L vol fl p st) : srcW st < L ∧ srcW st ∈ st.map (·.1) := by
 induction h with
 | base hb => exact ⟨hb, by simp [srcW]⟩
 | step hb hp ha hq hc h h1 h2 ih => rw [srcW_cons h.ne]; exact ⟨ih.1, List.mem_cons_of_mem _ ih.2⟩
theorem ap_way {acc : Nat → Nat → Bool} {P L : Nat} {vol room : List Int} (hv : ∀ b, vol.getD b 0 ≤ 100000000000000000) {a : Int} (ha : 0 < a) {p : Nat} {st : List (Nat × Nat × Int)} :
 ∀ {fl : List (List Int)}, Way acc P L vol fl p st → Fits vol fl a st → Dim P L fl → (∀ b q, 0 ≤ cellZ fl b q) → (∀ b q, 0 < cellZ fl b q → acc q b = true) → (∀ b, b < L → 0 ≤ leftF vol fl b) →
 ∃ fl', apF P L a fl (st.map cvW) = some fl' ∧ Dim P L fl' ∧ (∀ b q, 0 ≤ cellZ fl' b q) ∧ (∀ b q, 0 < cellZ fl' b q → acc q b = true) ∧
  (∀ b, leftF vol fl' b = leftF vol fl b - if srcW st = b then a else 0) ∧ (∀ q, freeF room fl' q = freeF room fl q - if p = q then a else 0) ∧
  (∀ b, b ∉ st.map (·.1) → ∀ q, cellZ fl' b q = cellZ fl b q) ∧ (∀ b q, q ∉ st.map (·.2.1) → cellZ fl' b q = cellZ fl b q) := by
 induction st generalizing p with
 | nil => intro fl h; exact absurd rfl h.ne
 | cons x st ih =>
  intro fl h hf hd hn hac hl
  cases h with
  | base hb hp hacc hl' =>
   rename_i b
   have hfit := (hf _ List.mem_cons_self).1 (show (-1 : Int) < 0 by decide)
   simp only at hfit
   have hd1 := hd.add b p a
   have c1 : ∀ b' q, cellZ (addF fl b p a) b' q = cellZ fl b' q + if b = b' ∧ p = q then a else 0 := fun b' q => cell_add hd hb hp
   have l1 : ∀ b', leftF vol (addF fl b p a) b' = leftF vol fl b' - if b = b' then a else 0 := fun b' => left_add hd hb hp
   have n1 : ∀ b' q, 0 ≤ cellZ (addF fl b p a) b' q := fun b' q => by rw [c1]; have := hn b' q; split <;> omega
   have lf1 : ∀ b', b' < L → 0 ≤ leftF vol (addF fl b p a) b' := fun b' hb' => by
    rw [l1]; have := hl b' hb'
    split
    ·rename_i e; subst e; omega
    ·omega
   have hok := okFl_of hd1 n1 lf1 hv
   refine ⟨addF fl b p a, ?_, hd1, n1, fun b' q hq => ?_, fun b' => l1 b', fun q => free_add hd hb hp, fun b' hb' q => ?_, fun b' q hq => ?_⟩
   ·have e : apSt a fl (cvW (b, p, -1)) = addF fl b p a := by simp [apSt, cvW]
    rw [List.map_cons, List.map_nil, apF, e, if_pos ⟨stepOk_cv hb hp (by omega), hok⟩, apF]
   ·rw [c1] at hq
    split at hq
    ·rename_i e; rw [← e.1, ← e.2]; exact hacc
    ·exact hac b' q (by omega)
   ·rw [c1, if_neg (fun e => hb' (by simp [e.1])), Int.add_zero]
   ·rw [c1, if_neg (fun e => hq (by simp [e.2])), Int.add_zero]
  | step hb hp hacc hq hcc h h1 h2 =>
   rename_i b q
   have hfit := (hf _ List.mem_cons_self).2 (by simp)
   simp only [Int.toNat_natCast] at hfit
   have hpq : p ≠ q := by
    intro e; subst e
    apply h2
    cases h <;> simp
   have hd1 := hd.add b p a
   have hd2 := hd1.add b q (-a)
   have c1 : ∀ b' q', cellZ (addF (addF fl b p a) b q (-a)) b' q' = cellZ fl b' q' + (if b = b' ∧ p = q' then a else 0) + if b = b' ∧ q = q' then -a else 0 := fun b' q' => by rw [cell_add hd1 hb hq, cell_add hd hb hp]
   have l1 : ∀ b', leftF vol (addF (addF fl b p a) b q (-a)) b' = leftF vol fl b' := fun b' => by
    rw [left_add hd1 hb hq, left_add hd hb hp]; split <;> omega
   have f1 : ∀ q', freeF room (addF (addF fl b p a) b q (-a)) q' = freeF room fl q' - (if p = q' then a else 0) - if q = q' then -a else 0 := fun q' => by rw [free_add hd1 hb hq, free_add hd hb hp]
   have n1 : ∀ b' q', 0 ≤ cellZ (addF (addF fl b p a) b q (-a)) b' q' := fun b' q' => by
    rw [c1]
    have := hn b' q'
    by_cases e1 : b = b' ∧ q = q'
    ·rw [if_pos e1, if_neg (fun e => hpq (e.2.trans e1.2.symm)), ← e1.1, ← e1.2]; omega
    ·rw [if_neg e1]; split <;> omega
   have a1 : ∀ b' q', 0 < cellZ (addF (addF fl b p a) b q (-a)) b' q' → acc q' b' = true := fun b' q' hq' => by
    rw [c1] at hq'
    by_cases e1 : b = b' ∧ p = q'
    ·rw [← e1.1, ← e1.2]; exact hacc
    ·rw [if_neg e1] at hq'
     refine hac b' q' ?_
     split at hq' <;> omega
   have lf1 : ∀ b', b' < L → 0 ≤ leftF vol (addF (addF fl b p a) b q (-a)) b' := fun b' hb' => by rw [l1]; exact hl b' hb'
   have hok := okFl_of hd2 n1 lf1 hv
   have keepC : ∀ x ∈ st, ∀ q', cellZ (addF (addF fl b p a) b q (-a)) x.1 q' = cellZ fl x.1 q' := fun x hx q' => by
    have hne : ¬ b = x.1 := fun e => h1 (List.mem_map.2 ⟨x, hx, e.symm⟩)
    rw [c1, if_neg (fun e => hne e.1), if_neg (fun e => hne e.1)]; omega
   have hw := h.change keepC (fun x _ => l1 x.1)
   have hf2 : Fits vol (addF (addF fl b p a) b q (-a)) a st := fun x hx => by
    have := hf x (List.mem_cons_of_mem _ hx)
    rw [l1, keepC x hx]; exact this
   obtain ⟨fl', r1, r2, r3, r4, r5, r6, r7, r8⟩ := ih hw hf2 hd2 n1 a1 lf1
   have e : apSt a fl (cvW (b, p, (q : Int))) = addF (addF fl b p a) b q (-a) := by
    simp [apSt, cvW]
   refine ⟨fl', ?_, r2, r3, r4, fun b' => ?_, fun q' => ?_, fun b' hb' q' => ?_, fun b' q' hq' => ?_⟩
   ·rw [List.map_cons, apF, e, if_pos ⟨stepOk_cv hb hp (by omega), hok⟩]
    exact r1
   ·rw [r5, l1, srcW_cons h.ne]
   ·rw [r6, f1]
    by_cases e1 : q = q'
    ·rw [if_pos e1, if_pos e1, if_neg (fun e2 => hpq (e2.trans e1.symm))]; omega
    ·rw [if_neg e1, if_neg e1]; omega
   ·rw [List.map_cons, List.mem_cons, not_or] at hb'
    rw [r7 b' hb'.2, c1, if_neg (fun e => hb'.1 e.1.symm), if_neg (fun e => hb'.1 e.1.symm)]; omega
   ·rw [List.map_cons, List.mem_cons, not_or] at hq'
    have hq2 : ¬ q = q' := fun e2 => hq'.2 (by subst e2; cases h <;> simp)
    rw [r8 b' q' hq'.2, c1, if_neg (fun e => hq'.1 e.2.symm), if_neg (fun e => hq2 e.2)]; omega
end Go.Proofs.Tryz
end

section
namespace Go.Proofs.Tryz
open Go Go.Vm
set_option maxRecDepth 20000
theorem hasN_app {m : List (Nat × Int)} {k j : Nat} {v : Int} : hasN (m ++ [(k, v)]) j = true ↔ hasN m j = true ∨ k = j := by
 simp [hasN]
theorem getZ_old {m : List (Nat × Int)} {k j : Nat} {v : Int} (h : hasN m j = true) : getZ (m ++ [(k, v)]) j = getZ m j := by
 unfold getZ
 rw [List.find?_append]
 cases hf : m.find? (fun e => e.1 == j) with
 | none =>
  exfalso
  obtain ⟨e, he, hj⟩ := List.any_eq_true.1 h
  have := List.find?_eq_none.1 hf e he
  exact this hj
 | some e => rfl
theorem getZ_new {m : List (Nat × Int)} {k : Nat} {v : Int} (h : hasN m k = false) : getZ (m ++ [(k, v)]) k = v := by
 unfold getZ
 rw [List.find?_append]
 have : m.find? (fun e => e.1 == k) = none := by
  rw [List.find?_eq_none]
  intro e he
  have := List.any_eq_false.1 h e he
  exact this
 rw [this]; simp
theorem hasN_mem {m : List (Nat × Int)} {k : Nat} : hasN m k = true ↔ k ∈ m.map (·.1) := by
 simp [hasN]
theorem RsI.blt {acc : Nat → Nat → Bool} {P L : Nat} {vol : List Int} {fl : List (List Int)} {s : Rs} (h : RsI acc P L vol fl s) {b : Nat} (hb : hasN s.bs b = true) : b < L := by
 obtain ⟨e, he, hj⟩ := List.any_eq_true.1 hb
 have := h.bl e he
 simp at hj
 omega
section
variable {acc : Nat → Nat → Bool} {P L : Nat} {vol : List Int} {fl : List (List Int)}
theorem stO_ok {s : Rs} {p o : Nat} (h : RsI acc P L vol fl s) (hp : hasN s.ps p = true) (ho : o < L) : RsI acc P L vol fl (stO fl p s o) ∧ St9 s (stO fl p s o) ∧ (0 < cellZ fl o p → hasN (stO fl p s o).bs o = true) := by
 unfold stO
 split
 ·rename_i hk
  exact ⟨h, .rfl', fun _ => hk⟩
 rename_i hk
 have hk : hasN s.bs o = false := by simpa using hk
 split
 ·rename_i hc
  have he : St9 s ⟨s.bs ++ [(o, (p : Int))], s.ps, s.q ++ [o]⟩ := by
   refine ⟨fun _ h => ⟨h, rfl⟩, fun k hk' => ⟨hasN_app.2 (.inl hk'), getZ_old hk'⟩, ⟨[o], rfl, fun b hb => ?_⟩, by simp only [List.length_append, List.length_singleton]; omega⟩
   rcases hasN_app.1 hb with hb | hb
   ·exact .inl hb
   ·exact .inr (by simp [hb])
  refine ⟨⟨?_, fun e he' => ?_, h.pl, fun q hq => ?_, fun b hb => ?_, fun b hb => ?_, fun b hb hl => (he.eb b (h.start b hb hl)).1⟩, he, fun _ => hasN_app.2 (.inr rfl)⟩
  ·rw [List.map_append, List.nodup_append]
   refine ⟨h.bn, by simp, fun a ha b hb => ?_⟩
   simp at hb
   subst hb
   intro e
   subst e
   rw [hasN_mem.2 ha] at hk
   cases hk
  ·rcases List.mem_append.1 he' with h1 | h1
   ·exact h.bl e h1
   ·rw [List.mem_singleton.1 h1]; exact ho
  ·obtain ⟨st, h1, h2⟩ := h.pw q hq
   exact ⟨st, h1, h2.ext he⟩
  ·rcases hasN_app.1 hb with hb | hb
   ·rcases h.bw b hb with ⟨h1, h2⟩ | ⟨q, st, h1, h2, h3, h4, h5, h6⟩
    ·exact .inl ⟨(he.eb b hb).2.trans h1, h2⟩
    ·exact .inr ⟨q, st, (he.eb b hb).2.trans h1, h2, h3, h4, h5.ext he, h6⟩
   ·subst hb
    obtain ⟨st, h1, h2⟩ := h.pw p hp
    refine .inr ⟨p, st, getZ_new hk, hc, h.pl p hp, h1, h2.ext he, fun hm => ?_⟩
    obtain ⟨x, hx, hxo⟩ := List.mem_map.1 hm
    have := (h2 x hx).2.2.1
    rw [hxo, hk] at this
    cases this
  ·rcases List.mem_append.1 hb with hb | hb
   ·exact hasN_app.2 (.inl (h.qb b hb))
   ·exact hasN_app.2 (.inr (List.mem_singleton.1 hb).symm)
 ·rename_i hc
  exact ⟨h, .rfl', fun h => absurd h hc⟩
theorem foO_ok {s : Rs} {p : Nat} (h : RsI acc P L vol fl s) (hp : hasN s.ps p = true) : ∀ i, i ≤ L → RsI acc P L vol fl ((List.range i).foldl (stO fl p) s) ∧ St9 s ((List.range i).foldl (stO fl p) s) ∧ ∀ o, o < i → 0 < cellZ fl o p → hasN ((List.range i).foldl (stO fl p) s).bs o = true
 | 0, _ => ⟨h, .rfl', fun o ho => absurd ho (by omega)⟩
 | i + 1, hi => by
  obtain ⟨h1, h2, h3⟩ := foO_ok h hp i (by omega)
  rw [range_snoc]
  obtain ⟨k1, k2, k3⟩ := stO_ok (o := i) h1 (h2.ep p hp).1 (by omega)
  refine ⟨k1, h2.trans k2, fun o ho hc => ?_⟩
  by_cases e : o = i
  ·subst e; exact k3 hc
  ·exact (k2.eb o (h3 o (by omega) hc)).1
def PX (L : Nat) (fl : List (List Int)) (s : Rs) : Prop := ∀ p, hasN s.ps p = true → ∀ o, o < L → 0 < cellZ fl o p → hasN s.bs o = true
theorem stP_ok {s : Rs} {b i : Nat} (h : RsI acc P L vol fl s) (hx : PX L fl s) (hb : hasN s.bs b = true) (hi : i < P) :
 RsI acc P L vol fl (stP acc L fl b s i) ∧ St9 s (stP acc L fl b s i) ∧ PX L fl (stP acc L fl b s i) ∧ (acc i b = true → hasN (stP acc L fl b s i).ps i = true) := by
 unfold stP
 split
 ·rename_i hk
  exact ⟨h, .rfl', hx, fun _ => hk⟩
 rename_i hk
 have hk : hasN s.ps i = false := by simpa using hk
 split
 ·rename_i hc
  exact ⟨h, .rfl', hx, fun h => by rw [hc] at h; cases h⟩
 rename_i hc
 have hc : acc i b = true := by simpa using hc
 have he : St9 s ⟨s.bs, s.ps ++ [(i, (b : Int))], s.q⟩ := ⟨fun k hk' => ⟨hasN_app.2 (.inl hk'), getZ_old hk'⟩, fun _ h => ⟨h, rfl⟩, ⟨[], by simp, fun _ h => .inl h⟩, rfl⟩
 have hbL := h.blt hb
 have h1 : RsI acc P L vol fl ⟨s.bs, s.ps ++ [(i, (b : Int))], s.q⟩ := by
  refine ⟨h.bn, h.bl, fun p hp => ?_, fun p hp => ?_, fun b' hb' => ?_, h.qb, h.start⟩
  ·rcases hasN_app.1 hp with hp | hp
   ·exact h.pl p hp
   ·subst hp; exact hi
  ·rcases hasN_app.1 hp with hp | hp
   ·obtain ⟨st, k1, k2⟩ := h.pw p hp
    exact ⟨st, k1, k2.ext he⟩
   ·subst hp
    rcases h.bw b hb with ⟨k1, k2⟩ | ⟨q, st, k1, k2, k3, k4, k5, k6⟩
    ·refine ⟨[(b, i, -1)], .base hbL hi hc k2, fun x hx' => ?_⟩
     rw [List.mem_singleton.1 hx']
     exact ⟨hasN_app.2 (.inr rfl), getZ_new hk, hb, k1⟩
    ·have hni : i ∉ st.map (·.2.1) := fun hm => by
      obtain ⟨x, hx', hxi⟩ := List.mem_map.1 hm
      have := (k5 x hx').1
      rw [hxi, hk] at this
      cases this
     refine ⟨(b, i, (q : Int)) :: st, .step hbL hi hc k3 k2 k4 k6 hni, fun x hx' => ?_⟩
     rcases List.mem_cons.1 hx' with rfl | hx'
     ·exact ⟨hasN_app.2 (.inr rfl), getZ_new hk, hb, k1⟩
     ·exact (k5.ext he) x hx'
  ·rcases h.bw b' hb' with ⟨k1, k2⟩ | ⟨q, st, k1, k2, k3, k4, k5, k6⟩
   ·exact .inl ⟨k1, k2⟩
   ·exact .inr ⟨q, st, k1, k2, k3, k4, k5.ext he, k6⟩
 have hpi : hasN (⟨s.bs, s.ps ++ [(i, (b : Int))], s.q⟩ : Rs).ps i = true := hasN_app.2 (.inr rfl)
 obtain ⟨k1, k2, k3⟩ := foO_ok h1 hpi L (Nat.le_refl _)
 refine ⟨k1, he.trans k2, fun p hp o ho hcl => ?_, fun _ => (k2.ep i hpi).1⟩
 have hps : ((List.range L).foldl (stO fl i) ⟨s.bs, s.ps ++ [(i, (b : Int))], s.q⟩).ps = s.ps ++ [(i, (b : Int))] := (stO_q L (Nat.le_refl _)).2
 rw [hps] at hp
 rcases hasN_app.1 hp with hp | hp
 ·exact (k2.eb o (hx p hp o ho hcl)).1
 ·subst hp; exact k3 o ho hcl
theorem foP_ok {s : Rs} {b : Nat} (h : RsI acc P L vol fl s) (hx : PX L fl s) (hb : hasN s.bs b = true) : ∀ i, i ≤ P →
 RsI acc P L vol fl ((List.range i).foldl (stP acc L fl b) s) ∧ St9 s ((List.range i).foldl (stP acc L fl b) s) ∧ PX L fl ((List.range i).foldl (stP acc L fl b) s) ∧ ∀ p, p < i → acc p b = true → hasN ((List.range i).foldl (stP acc L fl b) s).ps p = true
 | 0, _ => ⟨h, .rfl', hx, fun o ho => absurd ho (by omega)⟩
 | i + 1, hi => by
  obtain ⟨h1, h2, h3, h4⟩ := foP_ok h hx hb i (by omega)
  rw [range_snoc]
  obtain ⟨k1, k2, k3, k4⟩ := stP_ok (i := i) h1 h3 (h2.eb b hb).1 (by omega)
  refine ⟨k1, h2.trans k2, k3, fun p hp hc => ?_⟩
  by_cases e : p = i
  ·subst e; exact k4 hc
  ·exact (k2.ep p (h4 p (by omega) hc)).1
def PR (acc : Nat → Nat → Bool) (P : Nat) (s : Rs) : Prop := ∀ b, hasN s.bs b = true → b ∈ s.q ∨ ∀ p, p < P → acc p b = true → hasN s.ps p = true
theorem rsGo_ok : ∀ {n : Nat} {s : Rs}, RsI acc P L vol fl s → PX L fl s → PR acc P s → s.q.length + L ≤ n + s.bs.length → ∃ w, rsGo acc P L fl n s = some w ∧ RsI acc P L vol fl w ∧ PX L fl w ∧ ∀ b, hasN w.bs b = true → ∀ p, p < P → acc p b = true → hasN w.ps p = true
 | 0, s, h, hx, hr, hn => by
  have := h.len
  have hq : s.q = [] := List.length_eq_zero_iff.1 (by omega)
  refine ⟨s, by rw [rsGo, if_pos hq], h, hx, fun b hb => ?_⟩
  rcases hr b hb with h1 | h1
  ·rw [hq] at h1; cases h1
  ·exact h1
 | n + 1, s, h, hx, hr, hn => by
  cases hq : s.q with
  | nil =>
   refine ⟨s, by rw [rsGo, hq], h, hx, fun b hb => ?_⟩
   rcases hr b hb with h1 | h1
   ·rw [hq] at h1; cases h1
   ·exact h1
  | cons b r =>
   have hb := h.qb b (by rw [hq]; simp)
   obtain ⟨k1, k2, k3, k4⟩ := foP_ok h hx hb P (Nat.le_refl _)
   have he : rsGo acc P L fl (n + 1) s = rsGo acc P L fl n ⟨((List.range P).foldl (stP acc L fl b) s).bs, ((List.range P).foldl (stP acc L fl b) s).ps, ((List.range P).foldl (stP acc L fl b) s).q.tail⟩ := by
    rw [rsGo, hq]
   rw [he]
   generalize (List.range P).foldl (stP acc L fl b) s = u at *
   obtain ⟨t, ht, hnew⟩ := k2.q
   have hcnt := k2.cnt
   rw [hq] at ht
   have htl : u.q.tail = r ++ t := by rw [ht]; rfl
   have hul : u.q.length = r.length + t.length + 1 := by rw [ht]; simp
   have hsl : s.q.length = r.length + 1 := by rw [hq]; simp
   refine rsGo_ok (s := ⟨u.bs, u.ps, u.q.tail⟩) ⟨k1.bn, k1.bl, k1.pl, k1.pw, k1.bw, fun b' hb' => k1.qb b' (List.mem_of_mem_tail hb'), k1.start⟩ k3 (fun b' hb' => ?_) ?_
   ·rcases hnew b' hb' with h1 | h1
    ·rcases hr b' h1 with h2 | h2
     ·rw [hq] at h2
      rcases List.mem_cons.1 h2 with rfl | h2
      ·exact .inr fun p hp hc => k4 p hp hc
      ·exact .inl (by show b' ∈ u.q.tail; rw [htl]; exact List.mem_append_left _ h2)
     ·exact .inr fun p hp hc => (k2.ep p (h2 p hp hc)).1
    ·exact .inl (by show b' ∈ u.q.tail; rw [htl]; exact List.mem_append_right _ h1)
   ·show u.q.tail.length + L ≤ n + u.bs.length
    rw [htl, List.length_append]; omega
theorem rs0_ok : RsI acc P L vol fl (rs0 L vol fl) ∧ PX L fl (rs0 L vol fl) ∧ PR acc P (rs0 L vol fl) ∧ (rs0 L vol fl).q.length = (rs0 L vol fl).bs.length := by
 have key : ∀ i, i ≤ L → (((List.range i).foldl (st1 vol fl) ⟨[], [], []⟩).bs.map (·.1)).Nodup ∧ (∀ e ∈ ((List.range i).foldl (st1 vol fl) ⟨[], [], []⟩).bs, e.1 < i ∧ e.2 = -1 ∧ 0 < leftF vol fl e.1) ∧ ((List.range i).foldl (st1 vol fl) ⟨[], [], []⟩).ps = [] ∧
  (((List.range i).foldl (st1 vol fl) ⟨[], [], []⟩).q = ((List.range i).foldl (st1 vol fl) ⟨[], [], []⟩).bs.map (·.1)) ∧ ∀ b, b < i → 0 < leftF vol fl b → hasN ((List.range i).foldl (st1 vol fl) ⟨[], [], []⟩).bs b = true := by
  intro i
  induction i with
  | zero => intro _; simp
  | succ i ih =>
   intro hi
   obtain ⟨h1, h2, h3, h4, h5⟩ := ih (by omega)
   rw [range_snoc, st1]
   split
   ·rename_i hl
    refine ⟨?_, fun e he => ?_, h3, by rw [List.map_append, h4]; rfl, fun b hb hlb => ?_⟩
    ·rw [List.map_append, List.nodup_append]
     refine ⟨h1, by simp, fun a ha b hb => ?_⟩
     simp at hb
     obtain ⟨e, he, rfl⟩ := List.mem_map.1 ha
     have := (h2 e he).1
     omega
    ·rcases List.mem_append.1 he with he | he
     ·have := h2 e he; exact ⟨by omega, this.2⟩
     ·rw [List.mem_singleton.1 he]; exact ⟨by omega, rfl, hl⟩
    ·by_cases e : b = i
     ·subst e; exact hasN_app.2 (.inr rfl)
     ·exact hasN_app.2 (.inl (h5 b (by omega) hlb))
   ·rename_i hl
    refine ⟨h1, fun e he => ?_, h3, h4, fun b hb hlb => ?_⟩
    ·have := h2 e he; exact ⟨by omega, this.2⟩
    ·by_cases e : b = i
     ·subst e; exact absurd hlb hl
     ·exact h5 b (by omega) hlb
 obtain ⟨h1, h2, h3, h4, h5⟩ := key L (Nat.le_refl _)
 have hr0 : (List.range L).foldl (st1 vol fl) ⟨[], [], []⟩ = rs0 L vol fl := rfl
 rw [hr0] at h1 h2 h3 h4 h5
 generalize rs0 L vol fl = s at *
 have hno : ∀ p, ¬ hasN s.ps p = true := fun p hp => by rw [h3] at hp; simp [hasN] at hp
 refine ⟨⟨h1, fun e he => (h2 e he).1, fun p hp => absurd hp (hno p), fun p hp => absurd hp (hno p), fun b hb => .inl ?_, fun b hb => ?_, h5⟩, fun p hp => absurd hp (hno p), fun b hb => .inl ?_, by rw [h4, List.length_map]⟩
 ·obtain ⟨e, he, hj⟩ := List.any_eq_true.1 hb
  have hj : e.1 = b := by simpa using hj
  refine ⟨?_, by rw [← hj]; exact (h2 e he).2.2⟩
  unfold getZ
  cases hf : s.bs.find? (fun e => e.1 == b) with
  | none => exact absurd (by simpa using hj) (List.find?_eq_none.1 hf e he)
  | some e' => exact (h2 e' (List.mem_of_find?_eq_some hf)).2.1
 ·rw [h4] at hb; exact hasN_mem.2 hb
 ·rw [h4]; exact hasN_mem.1 hb
theorem reach_ok {n : Nat} (hn : L ≤ n) : ∃ w, reachF acc P L n vol fl = some w ∧ RsI acc P L vol fl w ∧ PX L fl w ∧ ∀ b, hasN w.bs b = true → ∀ p, p < P → acc p b = true → hasN w.ps p = true := by
 obtain ⟨h1, h2, h3, h4⟩ := rs0_ok (acc := acc) (P := P) (L := L) (vol := vol) (fl := fl)
 exact rsGo_ok h1 h2 h3 (by omega)
end
end Go.Proofs.Tryz
end

section
namespace Go.Proofs.Tryz
open Go Go.Vm
set_option maxRecDepth 20000
section
variable {acc : Nat → Nat → Bool} {P L : Nat} {vol room : List Int} {fl : List (List Int)}
def fitW (vol : List Int) (fl : List (List Int)) (x : Nat × Nat × Int) : Int := if x.2.2 < 0 then leftF vol fl x.1 else cellZ fl x.1 x.2.2.toNat
def minW (vol : List Int) (fl : List (List Int)) (a : Int) : List (Nat × Nat × Int) → Int
 | [] => a
 | x :: r => minW vol fl (minI a (fitW vol fl x)) r
theorem minI_le {a b : Int} : minI a b ≤ a ∧ minI a b ≤ b := by unfold minI; split <;> omega
theorem minI_pos {a b : Int} (ha : 0 < a) (hb : 0 < b) : 0 < minI a b := by unfold minI; split <;> omega
theorem minW_le : ∀ {st : List (Nat × Nat × Int)} {a : Int}, minW vol fl a st ≤ a
 | [], _ => Int.le_refl _
 | _ :: r, _ => Int.le_trans (minW_le (st := r)) minI_le.1
theorem minW_fit : ∀ {st : List (Nat × Nat × Int)} {a : Int}, ∀ x ∈ st, minW vol fl a st ≤ fitW vol fl x
 | _ :: _, _, _, hx => by
  rw [minW]
  rcases List.mem_cons.1 hx with rfl | hx
  ·exact Int.le_trans minW_le minI_le.2
  ·exact minW_fit _ hx
theorem minW_pos : ∀ {st : List (Nat × Nat × Int)} {a : Int}, 0 < a → (∀ x ∈ st, 0 < fitW vol fl x) → 0 < minW vol fl a st
 | [], _, ha, _ => ha
 | x :: _, _, ha, h => by
  rw [minW]
  exact minW_pos (minI_pos ha (h x List.mem_cons_self)) fun z hz => h z (List.mem_cons_of_mem _ hz)
theorem Way.fit {p : Nat} {st : List (Nat × Nat × Int)} (h : Way acc P L vol fl p st) : ∀ x ∈ st, 0 < fitW vol fl x := by
 induction h with
 | base hb hp ha hl =>
  intro x hx
  rw [List.mem_singleton.1 hx, fitW, if_pos (show (-1 : Int) < 0 by decide)]; exact hl
 | step hb hp ha hq hc h h1 h2 ih =>
  intro x hx
  rcases List.mem_cons.1 hx with rfl | hx
  ·rw [fitW, if_neg (by simp)]; simpa using hc
  ·exact ih x hx
theorem fits_min {st : List (Nat × Nat × Int)} {a : Int} : Fits vol fl (minW vol fl a st) st := fun x hx => by
 have := minW_fit (vol := vol) (fl := fl) (a := a) x hx
 unfold fitW at this
 constructor
 ·intro h; rwa [if_pos h] at this
 ·intro h; rwa [if_neg (by omega)] at this
theorem path_way {w : Rs} {p : Nat} {st : List (Nat × Nat × Int)} (h : Way acc P L vol fl p st) : InW w st → ∀ {n : Nat} {a : Int}, st.length ≤ n → pathF P L vol fl w n p a = some (st.map cvW, minW vol fl a st) := by
 induction h with
 | base hb hp ha hl =>
  rename_i b p
  intro hw n a hn
  obtain ⟨w1, w2, w3, w4⟩ := hw _ List.mem_cons_self
  simp only at w1 w2 w3 w4
  cases n with
  | zero => simp at hn
  | succ n =>
   rw [pathF, w2, Int.toNat_natCast, w4, if_pos ⟨w1, by omega, by omega, w3, by omega⟩, if_pos (by decide)]
   simp [cvW, minW, fitW]
 | step hb hp ha hq hc h h1 h2 ih =>
  rename_i b p q st
  intro hw n a hn
  obtain ⟨w1, w2, w3, w4⟩ := hw _ List.mem_cons_self
  simp only at w1 w2 w3 w4
  cases n with
  | zero => simp at hn
  | succ n =>
   rw [pathF, w2, Int.toNat_natCast, w4, if_pos ⟨w1, by omega, by omega, w3, by omega⟩, if_neg (by omega), Int.toNat_natCast,
    ih (fun x hx => hw x (List.mem_cons_of_mem _ hx)) (by simpa using hn)]
   have hq0 : ¬ ((q : Int) < 0) := by omega
   simp [cvW, minW, fitW, hq0]
def Shut (acc : Nat → Nat → Bool) (P L : Nat) (vol room : List Int) (fl : List (List Int)) (p : Nat) : Prop := (¬ ∃ st, Way acc P L vol fl p st) ∨ freeF room fl p = 0
theorem way_reached {w : Rs} (hw : RsI acc P L vol fl w) (hx : PX L fl w) (hr : ∀ b, hasN w.bs b = true → ∀ p, p < P → acc p b = true → hasN w.ps p = true) {p : Nat} {st : List (Nat × Nat × Int)} (h : Way acc P L vol fl p st) : hasN w.ps p = true := by
 induction h with
 | base hb hp ha hl => exact hr _ (hw.start _ hb hl) _ hp ha
 | step hb hp ha hq hc h h1 h2 ih => exact hr _ (hx _ ih _ hb hc) _ hp ha
theorem rch_no {w : Rs} (hI : RsI acc P L vol fl w) (hX : PX L fl w) (hR : ∀ b, hasN w.bs b = true → ∀ p, p < P → acc p b = true → hasN w.ps p = true) {q : Nat} (hq : ¬ ∃ st, Way acc P L vol fl q st) {p : Nat} (h : Rch acc P L fl p q) : ¬ hasN w.ps p = true := by
 induction h with
 | refl p =>
  intro hp
  obtain ⟨st, h1, -⟩ := hI.pw p hp
  exact hq ⟨st, h1⟩
 | step hb hc hp ha h ih => exact fun hps => ih hq (hR _ (hX _ hps _ hb hc) _ hp ha)
theorem push_ok (h : FlOk acc P L vol room fl) (hv : ∀ b, vol.getD b 0 ≤ 100000000000000000) {n : Nat} (hn : L ≤ n) (hnP : P ≤ n) {pit : Nat} (hp : pit < P) :
 (pushF acc P L n vol room fl pit = some none ∧ Shut acc P L vol room fl pit) ∨
 ∃ fl' a b, pushF acc P L n vol room fl pit = some (some fl') ∧ 0 < a ∧ a ≤ freeF room fl pit ∧ b < L ∧ FlOk acc P L vol room fl' ∧ (∀ b', leftF vol fl' b' = leftF vol fl b' - if b = b' then a else 0) ∧ (∀ q, freeF room fl' q = freeF room fl q - if pit = q then a else 0) ∧
  (∀ q, q ≠ pit → Shut acc P L vol room fl q → Shut acc P L vol room fl' q) ∧ Keep acc P L vol fl fl' := by
 obtain ⟨w, hw, hI, hX, hR⟩ := reach_ok (acc := acc) (P := P) (vol := vol) (fl := fl) hn
 unfold pushF
 rw [hw]
 simp only
 by_cases hc : hasN w.ps pit = false ∨ freeF room fl pit = 0
 ·rw [if_pos hc]
  refine .inl ⟨rfl, ?_⟩
  rcases hc with hc | hc
  ·refine .inl fun ⟨st, hst⟩ => ?_
   rw [way_reached hI hX hR hst] at hc
   cases hc
  ·exact .inr hc
 rw [if_neg hc]
 rw [not_or] at hc
 have hpr : hasN w.ps pit = true := by simpa using hc.1
 obtain ⟨st, hst, hin⟩ := hI.pw pit hpr
 have hlen := hst.len.1
 rw [path_way hst hin (by omega)]
 simp only
 have hfr := h.fr pit hp
 have ha0 : 0 < minW vol fl (freeF room fl pit) st := minW_pos (by omega) hst.fit
 have hle : minW vol fl (freeF room fl pit) st ≤ freeF room fl pit := minW_le
 have hft : Fits vol fl (minW vol fl (freeF room fl pit) st) st := fits_min
 generalize minW vol fl (freeF room fl pit) st = a at *
 obtain ⟨fl', r1, r2, r3, r4, r5, r6, r7, r8⟩ := ap_way (room := room) hv ha0 hst hft h.dim h.nn h.ac h.lf
 rw [r1]
 simp only
 have hsrc := hst.src
 have hfs : a ≤ leftF vol fl (srcW st) := by
  clear r1 r2 r3 r4 r5 r6 r7 r8 hsrc hin hle hlen
  induction hst with
  | base hb hp ha hl => exact (hft _ List.mem_cons_self).1 (show (-1 : Int) < 0 by decide)
  | step hb hp ha hq hcl hs h1 h2 ih =>
   rw [srcW_cons hs.ne]
   have hqr := way_reached hI hX hR hs
   have hfl : Fits vol fl a _ := fun x hx => hft x (List.mem_cons_of_mem _ hx)
   clear ih
   have key : ∀ {q : Nat} {st : List (Nat × Nat × Int)}, Way acc P L vol fl q st → Fits vol fl a st → a ≤ leftF vol fl (srcW st) := by
    intro q st hs
    induction hs with
    | base hb hp ha hl => exact fun hf => (hf _ List.mem_cons_self).1 (show (-1 : Int) < 0 by decide)
    | step hb hp ha hq hcl hs h1 h2 ih =>
     intro hf
     rw [srcW_cons hs.ne]
     exact ih fun x hx => hf x (List.mem_cons_of_mem _ hx)
   exact key hs hfl
 have noWay : ∀ q, (¬ ∃ st, Way acc P L vol fl q st) → ¬ ∃ st, Way acc P L vol fl' q st := fun q hs ⟨st', hst'⟩ => hs (by
  have hreach : hasN w.ps q = true := by
   clear hs
   induction hst' with
   | base hb hp ha hl =>
    refine hR _ (hI.start _ hb ?_) _ hp ha
    rw [r5] at hl
    split at hl <;> omega
   | @step b p q' st'' hb hp ha hq hcl h' h1 h2 ih =>
    refine hR _ ?_ _ hp ha
    by_cases hm : b ∈ st.map (·.1)
    ·obtain ⟨x, hx, rfl⟩ := List.mem_map.1 hm
     exact (hin x hx).2.2.1
    ·rw [r7 b hm] at hcl
     exact hX _ (ih ⟨_, h'⟩) _ hb hcl
  obtain ⟨st2, h2, -⟩ := hI.pw q hreach
  exact ⟨st2, h2⟩)
 refine .inr ⟨fl', a, srcW st, rfl, ha0, hle, hsrc.1, ⟨r2, r3, r4, fun b hb => ?_, fun p' hp' => ?_⟩, r5, r6, fun q hq hs => ?_, fun q hq => ⟨noWay q hq, fun p hp => ?_⟩⟩
 ·rw [r5]
  split
  ·rename_i e; rw [← e]; omega
  ·have := h.lf b hb; omega
 ·rw [r6]
  split
  ·rename_i e; rw [← e]; omega
  ·have := h.fr p' hp'; omega
 ·rcases hs with hs | hs
  ·exact .inl (noWay q hs)
  ·refine .inr ?_
   rw [r6, if_neg (fun e => hq e.symm), hs]; rfl
 ·induction hp with
  | refl p => exact .refl p
  | @step b p p' q' hb hc hp' ha h ih =>
   have ih := ih hq
   by_cases hm : b ∈ st.map (·.1)
   ·obtain ⟨x, hx, rfl⟩ := List.mem_map.1 hm
    exact absurd (hR _ (hin x hx).2.2.1 _ hp' ha) (rch_no hI hX hR hq ih)
   ·rw [r7 b hm] at hc
    exact .step hb hc hp' ha ih
def totL (vol : List Int) (fl : List (List Int)) : Nat → Int
 | 0 => 0
 | n + 1 => totL vol fl n + leftF vol fl n
theorem totL_nn (h : ∀ b, b < L → 0 ≤ leftF vol fl b) : ∀ n, n ≤ L → 0 ≤ totL vol fl n
 | 0, _ => Int.le_refl _
 | n + 1, hn => by
  have h1 := totL_nn h n (by omega)
  have h2 := h n (by omega)
  rw [totL]; omega
theorem totL_sub {fl' : List (List Int)} {a : Int} {b : Nat} (h : ∀ b', leftF vol fl' b' = leftF vol fl b' - if b = b' then a else 0) : ∀ n, totL vol fl' n = totL vol fl n - if b < n then a else 0
 | 0 => by simp [totL]
 | n + 1 => by
  rw [totL, totL, totL_sub h n, h n]
  by_cases h1 : b < n
  ·rw [if_pos h1, if_neg (by omega), if_pos (by omega)]; omega
  ·by_cases h2 : b = n
   ·rw [if_neg h1, if_pos h2, if_pos (by omega)]; omega
   ·rw [if_neg h1, if_neg h2, if_neg (by omega)]; omega
theorem fill_run (hv : ∀ b, vol.getD b 0 ≤ 100000000000000000) {n : Nat} (hn : L ≤ n) (hnP : P ≤ n) {pit : Nat} (hp : pit < P) : ∀ (m : Nat) {fl : List (List Int)}, FlOk acc P L vol room fl → totL vol fl L ≤ m →
 ∃ fl', (∃ k, ∀ j, k ≤ j → fillF acc P L n vol room pit j fl = some fl') ∧ FlOk acc P L vol room fl' ∧ Shut acc P L vol room fl' pit ∧ (∀ q, q ≠ pit → freeF room fl' q = freeF room fl q ∧ (Shut acc P L vol room fl q → Shut acc P L vol room fl' q)) ∧ (∀ b, leftF vol fl' b ≤ leftF vol fl b) ∧ Keep acc P L vol fl fl' := by
 intro m
 induction m with
 | zero =>
  intro fl h hm
  rcases push_ok h hv hn hnP hp with ⟨h1, h2⟩ | ⟨fl', a, b, h1, ha, -, hb, h3, h4, -, -⟩
  ·refine ⟨fl, ⟨1, fun j hj => ?_⟩, h, h2, fun q _ => ⟨rfl, id⟩, fun b => Int.le_refl _, .rfl'⟩
   cases j with
   | zero => omega
   | succ j => rw [fillF, h1]
  ·exfalso
   have e1 := totL_sub h4 L
   have e2 := totL_nn h3.lf L (Nat.le_refl _)
   rw [if_pos hb] at e1
   omega
 | succ m ih =>
  intro fl h hm
  rcases push_ok h hv hn hnP hp with ⟨h1, h2⟩ | ⟨fl', a, b, h1, ha, -, hb, h3, h4, h5, h6, h7⟩
  ·refine ⟨fl, ⟨1, fun j hj => ?_⟩, h, h2, fun q _ => ⟨rfl, id⟩, fun b => Int.le_refl _, .rfl'⟩
   cases j with
   | zero => omega
   | succ j => rw [fillF, h1]
  ·have e1 := totL_sub h4 L
   rw [if_pos hb] at e1
   obtain ⟨fl2, ⟨k, hk⟩, g1, g2, g3, g4, g5⟩ := ih h3 (by omega)
   refine ⟨fl2, ⟨k + 1, fun j hj => ?_⟩, g1, g2, fun q hq => ⟨?_, fun hs => (g3 q hq).2 (h6 q hq hs)⟩, fun b' => ?_, h7.trans g5⟩
   ·cases j with
    | zero => omega
    | succ j => rw [fillF, h1]; exact hk j (by omega)
   ·rw [(g3 q hq).1, h5, if_neg (fun e => hq e.symm)]; omega
   ·have := g4 b'
    rw [h4] at this
    split at this <;> omega
end
end Go.Proofs.Tryz
end

section
namespace Go.Proofs.Tryz
open Go Go.Vm
set_option maxRecDepth 20000
def sumN : Nat → (Nat → Int) → Int
 | 0, _ => 0
 | n + 1, f => sumN n f + f n
theorem sumN_congr {f g : Nat → Int} : ∀ {n : Nat}, (∀ i, i < n → f i = g i) → sumN n f = sumN n g
 | 0, _ => rfl
 | n + 1, h => by rw [sumN, sumN, sumN_congr (n := n) (fun i hi => h i (by omega)), h n (by omega)]
theorem sumN_add {f g : Nat → Int} : ∀ {n : Nat}, sumN n (fun i => f i + g i) = sumN n f + sumN n g
 | 0 => rfl
 | n + 1 => by rw [sumN, sumN, sumN, sumN_add]; omega
theorem sumN_sub {f g : Nat → Int} : ∀ {n : Nat}, sumN n (fun i => f i - g i) = sumN n f - sumN n g
 | 0 => rfl
 | n + 1 => by rw [sumN, sumN, sumN, sumN_sub]; omega
theorem sumN_le {f g : Nat → Int} : ∀ {n : Nat}, (∀ i, i < n → f i ≤ g i) → sumN n f ≤ sumN n g
 | 0, _ => Int.le_refl _
 | n + 1, h => by
  have h1 := sumN_le (n := n) fun i hi => h i (by omega)
  have h2 := h n (by omega)
  rw [sumN, sumN]; omega
theorem sumN_zero : ∀ {n : Nat}, sumN n (fun _ => 0) = 0
 | 0 => rfl
 | n + 1 => by rw [sumN, sumN_zero]; rfl
theorem sumN_nn {f : Nat → Int} {n : Nat} (h : ∀ i, i < n → 0 ≤ f i) : 0 ≤ sumN n f := by
 have := sumN_le (f := fun _ => 0) (g := f) h
 rw [sumN_zero] at this; exact this
theorem sumN_swap {f : Nat → Nat → Int} {m : Nat} : ∀ {n : Nat}, sumN n (fun i => sumN m (f i)) = sumN m (fun j => sumN n fun i => f i j)
 | 0 => by simp only [sumN]; rw [sumN_zero]
 | n + 1 => by
  rw [sumN, sumN_swap, ← sumN_add]
  rfl
theorem sumN_ite {f : Nat → Int} {c : Bool} {n : Nat} : sumN n (fun i => if c = true then f i else 0) = if c = true then sumN n f else 0 := by
 cases c with
 | true => rfl
 | false => exact sumN_zero
theorem sumN_one {f : Nat → Int} {n i : Nat} (h : ∀ i, i < n → 0 ≤ f i) (hi : i < n) : f i ≤ sumN n f := by
 induction n with
 | zero => omega
 | succ n ih =>
  rw [sumN]
  have hn := h n (by omega)
  by_cases e : i = n
  ·subst e
   have := sumN_nn (f := f) (n := i) fun j hj => h j (by omega)
   omega
  ·have := ih (fun j hj => h j (by omega)) (by omega)
   omega
theorem sum_sumN : ∀ (l : List Int), l.sum = sumN l.length fun i => l.getD i 0 := by
 intro l
 rw [← List.reverse_reverse l]
 induction l.reverse with
 | nil => rfl
 | cons x r ih =>
  rw [List.reverse_cons, List.sum_append, List.length_append, ih]
  simp only [List.length_singleton, sumN, List.sum_cons, List.sum_nil]
  have e1 : sumN r.reverse.length (fun i => r.reverse.getD i 0) = sumN r.reverse.length (fun i => (r.reverse ++ [x]).getD i 0) := sumN_congr fun i hi => by
   rw [List.getD_eq_getElem?_getD, List.getD_eq_getElem?_getD, List.getElem?_append_left hi]
  have e2 : (r.reverse ++ [x]).getD r.reverse.length 0 = x := by simp [List.getD_eq_getElem?_getD]
  rw [e1, e2]; omega
section
variable {acc : Nat → Nat → Bool} {P L : Nat} {vol room : List Int} {fl : List (List Int)}
theorem left_sum (hd : Dim P L fl) {b : Nat} (hb : b < L) : leftF vol fl b = vol.getD b 0 - sumN P (cellZ fl b) := by
 unfold leftF
 rw [sum_sumN, hd.rowD hb]; rfl
theorem free_sum (hd : Dim P L fl) {p : Nat} : freeF room fl p = room.getD p 0 - sumN L fun b => cellZ fl b p := by
 unfold freeF
 rw [sum_sumN, List.length_map, hd.len]
 congr 1
 refine sumN_congr fun b hb => ?_
 unfold cellZ
 simp only [List.getD_eq_getElem?_getD, List.getElem?_map]
 cases fl[b]? <;> simp
def openB (acc : Nat → Nat → Bool) (L : Nat) (A : Nat → Bool) (p : Nat) : Bool := (List.range L).any fun b => A b && acc p b
def needS (L : Nat) (vol : List Int) (A : Nat → Bool) : Int := sumN L fun b => if A b = true then vol.getD b 0 else 0
def haveS (acc : Nat → Nat → Bool) (P L : Nat) (room : List Int) (A : Nat → Bool) : Int := sumN P fun p => if openB acc L A p = true then room.getD p 0 else 0
def restS (L : Nat) (vol : List Int) (fl : List (List Int)) (A : Nat → Bool) : Int := sumN L fun b => if A b = true then leftF vol fl b else 0
theorem open_of {A : Nat → Bool} {p b : Nat} (hb : b < L) (hA : A b = true) (ha : acc p b = true) : openB acc L A p = true :=
 List.any_eq_true.2 ⟨b, List.mem_range.2 hb, by rw [hA, ha]; rfl⟩
theorem out_sum (h : FlOk acc P L vol room fl) (A : Nat → Bool) : needS L vol A - restS L vol fl A = sumN P fun p => if openB acc L A p = true then sumN L (fun b => if A b = true then cellZ fl b p else 0) else 0 := by
 have e1 : needS L vol A - restS L vol fl A = sumN L fun b => sumN P fun p => if A b = true then cellZ fl b p else 0 := by
  rw [needS, restS, ← sumN_sub]
  refine sumN_congr fun b hb => ?_
  rw [sumN_ite]
  cases A b with
  | true => simp only [if_true]; rw [left_sum h.dim hb]; omega
  | false => rfl
 rw [e1, sumN_swap]
 refine sumN_congr fun p _ => ?_
 cases ho : openB acc L A p with
 | true => rfl
 | false =>
  rw [if_neg (by decide)]
  refine (sumN_congr fun b hb => ?_).trans sumN_zero
  cases hA : A b with
  | false => rfl
  | true =>
   rw [if_pos rfl]
   have := h.nn b p
   by_cases hc : 0 < cellZ fl b p
   ·rw [open_of hb hA (h.ac b p hc)] at ho; cases ho
   ·omega
theorem cut_weak (h : FlOk acc P L vol room fl) (A : Nat → Bool) : needS L vol A - restS L vol fl A ≤ haveS acc P L room A := by
 rw [out_sum h A, haveS]
 refine sumN_le fun p hp => ?_
 split
 ·have h1 := h.fr p hp
  rw [free_sum h.dim] at h1
  have h2 : sumN L (fun b => if A b = true then cellZ fl b p else 0) ≤ sumN L fun b => cellZ fl b p := sumN_le fun b _ => by
   have := h.nn b p
   split <;> omega
  omega
 ·exact Int.le_refl _
theorem cut_strong (h : FlOk acc P L vol room fl) (hs : ∀ p, p < P → Shut acc P L vol room fl p) {w : Rs} (hI : RsI acc P L vol fl w) (hX : PX L fl w) (hR : ∀ b, hasN w.bs b = true → ∀ p, p < P → acc p b = true → hasN w.ps p = true) :
 needS L vol (hasN w.bs) - restS L vol fl (hasN w.bs) = haveS acc P L room (hasN w.bs) := by
 rw [out_sum h, haveS]
 refine sumN_congr fun p hp => ?_
 cases ho : openB acc L (hasN w.bs) p with
 | false => rfl
 | true =>
  rw [if_pos rfl, if_pos rfl]
  obtain ⟨b, hb, hab⟩ := List.any_eq_true.1 ho
  rw [Bool.and_eq_true] at hab
  have hps := hR b hab.1 p hp hab.2
  obtain ⟨st, hst, -⟩ := hI.pw p hps
  have hfr : freeF room fl p = 0 := by
   rcases hs p hp with h1 | h1
   ·exact absurd ⟨st, hst⟩ h1
   ·exact h1
  rw [free_sum h.dim] at hfr
  have : sumN L (fun b => if hasN w.bs b = true then cellZ fl b p else 0) = sumN L fun b => cellZ fl b p := sumN_congr fun b hb => by
   cases hA : hasN w.bs b with
   | true => rfl
   | false =>
    rw [if_neg (by decide)]
    have h0 := h.nn b p
    by_cases hc : 0 < cellZ fl b p
    ·rw [hX p hps b hb hc] at hA; cases hA
    ·omega
  omega
theorem rest_pos (h : FlOk acc P L vol room fl) {A : Nat → Bool} {b : Nat} (hb : b < L) (hA : A b = true) (hl : 0 < leftF vol fl b) : 0 < restS L vol fl A := by
 have := sumN_one (f := fun b => if A b = true then leftF vol fl b else 0) (n := L) (i := b) (fun i hi => by have := h.lf i hi; split <;> omega) hb
 rw [hA, if_pos rfl] at this
 unfold restS; omega
theorem fills_run (hv : ∀ b, vol.getD b 0 ≤ 100000000000000000) {n : Nat} (hn : L ≤ n) (hnP : P ≤ n) : ∀ {s : List Nat} {fl : List (List Int)}, (∀ p ∈ s, p < P) → FlOk acc P L vol room fl →
 ∃ fl', (∃ k, ∀ j, k ≤ j → fillsF acc P L n j vol room s fl = some fl') ∧ FlOk acc P L vol room fl' ∧ (∀ q, q ∈ s ∨ Shut acc P L vol room fl q → Shut acc P L vol room fl' q) ∧ (∀ q, q ∉ s → freeF room fl' q = freeF room fl q) ∧ (∀ b, leftF vol fl' b ≤ leftF vol fl b) ∧ Keep acc P L vol fl fl'
 | [], fl, _, h => ⟨fl, ⟨0, fun j _ => rfl⟩, h, fun q hq => hq.elim (fun h => by cases h) id, fun _ _ => rfl, fun _ => Int.le_refl _, .rfl'⟩
 | p :: s, fl, hs, h => by
  have hp := hs p List.mem_cons_self
  obtain ⟨m, hm⟩ := Int.eq_ofNat_of_zero_le (totL_nn h.lf L (Nat.le_refl _))
  obtain ⟨f1, ⟨k1, g1⟩, g2, g3, g4, g5, g6⟩ := fill_run hv hn hnP hp m h (by omega)
  obtain ⟨f2, ⟨k2, r1⟩, r2, r3, r4, r5, r6⟩ := fills_run hv hn hnP (fun q hq => hs q (List.mem_cons_of_mem _ hq)) g2
  refine ⟨f2, ⟨max k1 k2, fun j hj => ?_⟩, r2, fun q hq => r3 q ?_, fun q hq => ?_, fun b => Int.le_trans (r5 b) (g5 b), g6.trans r6⟩
  ·rw [fillsF, g1 j (by omega)]
   exact r1 j (by omega)
  ·by_cases e : q = p
   ·subst e; exact .inr g3
   ·rcases hq with hq | hq
    ·rcases List.mem_cons.1 hq with rfl | hq
     ·exact absurd rfl e
     ·exact .inl hq
    ·exact .inr ((g4 q e).2 hq)
  ·rw [List.mem_cons, not_or] at hq
   rw [r4 q hq.2, (g4 q hq.1).1]
end
end Go.Proofs.Tryz
end

section
namespace Go.Proofs.Tryz
open Go Go.Vm
set_option maxRecDepth 20000
set_option maxHeartbeats 8000000
def fr0 : Frt := ⟨[], 0, ⟨[], [], false⟩⟩
theorem ev_CheapestFull {y : Yd} {l : List Bt} (hs : smallP y) (h0 : lstE y l = 0) {n k : Nat} {fl : List (List Int)} (hn : n ≤ 1000)
 (hf : fillsF (accF y l) y.pits.length l.length n k (volF y l) (roomF y) (sortGo (priceF y) [] (List.range y.pits.length)) (flow0 y l) = some fl) (hd : doneF l.length (volF y l) fl = false) :
 Ev Tryz.prog 10 [ydD y, .sl 5 (l.map btD)] (.tup [frD fr0, iD 19]) := by
 have hO := ls_ok h0
 have hT := tk_ok hs hO
 have hSm : ∀ z ∈ sortGo (priceF y) [] (List.range y.pits.length), z < y.pits.length := fun z hz => by
  rcases sortGo_mem.1 hz with h | h
  ·simp at h
  ·exact List.mem_range.1 h
 have hT2 := fills_ok hn hSm hT hf
 have hB := (xv_begin hs (by have := hO.len; omega) h0).rn [(9, 12), (2009, 2012), (4009, 4012), (6009, 6012)] rfl
 have hS := xv_solve hT hn hf
 rw [tkX_eq hT.hf, tkX_eq hT2.hf, hd] at hS
 unfold tkL at hS
 have hS := hS.rn [(1000, 12), (1001, 2012), (1002, 4012), (1003, 6012)] rfl
 refine ev_of_awp tysOk mixed (fn := Tryz.f10) Tryz.func10 rfl rfl rfl ?_
 conv => whnf
 repeat' (first|((with_reducible refine Split.of_false ?_);conv=>whnf)|(with_reducible refine Split.neg ?_)|((with_reducible refine Split.is_false ?_ ?_);decide;conv=>whnf)|((with_reducible refine Need.mk ?_ ?_);(first|omega|rfl|decide|(refine ⟨?_,?_⟩<;>simp<;>omega)|(simp;omega));conv=>whnf)|((with_reducible refine AltK.r ?_);(conv=>whnf);(first|(refine CallX.mk _ _ (hB) rfl ?_)|(refine CallX.mk _ _ (hS) rfl ?_));conv=>whnf)|fail)
 all_goals first
  | rfl
  |(exfalso; omega)
end Go.Proofs.Tryz
end

section
namespace Go.Proofs.Tryz
open Go Go.Vm
set_option maxRecDepth 20000
theorem cell_flow0 {y : Yd} {l : List Bt} {b p : Nat} : cellZ (flow0 y l) b p = 0 := by
 unfold cellZ flow0
 simp only [List.getD_eq_getElem?_getD, List.getElem?_map]
 cases l[b]? with
 | none => simp
 | some x =>
  simp only [Option.map_some, Option.getD_some, List.getElem?_replicate]
  split <;> rfl
theorem dim_flow0 {y : Yd} {l : List Bt} : Dim y.pits.length l.length (flow0 y l) := by
 refine ⟨by rw [flow0, List.length_map], fun r hr => ?_⟩
 obtain ⟨b, -, rfl⟩ := List.mem_map.1 hr
 exact List.length_replicate ..
theorem left_flow0 {y : Yd} {l : List Bt} {vol : List Int} {b : Nat} (hb : b < l.length) : leftF vol (flow0 y l) b = vol.getD b 0 := by
 rw [left_sum dim_flow0 hb, sumN_congr (g := fun _ => 0) (fun p _ => cell_flow0), sumN_zero]; omega
theorem free_flow0 {y : Yd} {l : List Bt} {room : List Int} {p : Nat} : freeF room (flow0 y l) p = room.getD p 0 := by
 rw [free_sum dim_flow0, sumN_congr (g := fun _ => 0) (fun b _ => cell_flow0), sumN_zero]; omega
theorem getD_bd9 {l : List Int} {M : Int} (h : ∀ x ∈ l, 0 ≤ x ∧ x ≤ M) (hM : 0 ≤ M) (i : Nat) : 0 ≤ l.getD i 0 ∧ l.getD i 0 ≤ M := by
 rw [List.getD_eq_getElem?_getD]
 cases hx : l[i]? with
 | none => exact ⟨Int.le_refl _, hM⟩
 | some x => exact h x (List.mem_of_getElem? hx)
theorem vol_bd {y : Yd} {l : List Bt} (h : LsOk y l) (b : Nat) : 0 ≤ (volF y l).getD b 0 ∧ (volF y l).getD b 0 ≤ 10000000000001000 := by
 have hy := yd_ok h.yd
 exact getD_bd9 (volsGo_spec h.wok ⟨hy.carL, hy.car⟩).2 (by decide) b
theorem room_bd {y : Yd} (h : YdOk y) (p : Nat) : 0 ≤ (roomF y).getD p 0 ∧ (roomF y).getD p 0 ≤ 40000000000000 :=
 getD_bd9 (fun x hx => by
  obtain ⟨q, hq, rfl⟩ := List.mem_map.1 hx
  exact roomS_bd h hq) (by decide) p
theorem fl_flow0 {y : Yd} {l : List Bt} (h : LsOk y l) : FlOk (accF y l) y.pits.length l.length (volF y l) (roomF y) (flow0 y l) :=
 ⟨dim_flow0, fun b p => by rw [cell_flow0]; exact Int.le_refl _, fun b p hc => by rw [cell_flow0] at hc; exact absurd hc (by decide),
  fun b hb => by rw [left_flow0 hb]; exact (vol_bd h b).1, fun p _ => by rw [free_flow0]; exact (room_bd (yd_ok h.yd) p).1⟩
def ordF (y : Yd) : List Nat := sortGo (priceF y) [] (List.range y.pits.length)
theorem ordF_mem {y : Yd} {p : Nat} : p ∈ ordF y ↔ p < y.pits.length := by
 rw [ordF, sortGo_mem]; simp
theorem solve_run {y : Yd} {l : List Bt} (h : LsOk y l) : ∃ fl k, fillsF (accF y l) y.pits.length l.length 20 k (volF y l) (roomF y) (ordF y) (flow0 y l) = some fl ∧ FlOk (accF y l) y.pits.length l.length (volF y l) (roomF y) fl ∧
 ∀ p, p < y.pits.length → Shut (accF y l) y.pits.length l.length (volF y l) (roomF y) fl p := by
 have hy := yd_ok h.yd
 have hP := hy.pits
 have hL := h.len
 obtain ⟨fl, ⟨k, hk⟩, h2, h3, -, -, -⟩ := fills_run (fun b => by have := vol_bd h b; omega) (n := 20) (by omega) (by omega) (s := ordF y) (fun p hp => ordF_mem.1 hp) (fl_flow0 h)
 exact ⟨fl, k, hk k (Nat.le_refl _), h2, fun p hp => h3 p (.inl (ordF_mem.2 hp))⟩
theorem done_iff {L : Nat} {vol : List Int} {fl : List (List Int)} : doneF L vol fl = true ↔ ∀ b, b < L → leftF vol fl b ≤ 0 := by
 rw [doneF, List.all_eq_true]
 constructor
 ·intro h b hb
  have := h b (List.mem_range.2 hb)
  simpa using this
 ·intro h b hb
  have := h b (List.mem_range.1 hb)
  simpa using this
theorem no_cut {acc : Nat → Nat → Bool} {P L : Nat} {vol room : List Int} {fl : List (List Int)} (h : FlOk acc P L vol room fl) (hd : doneF L vol fl = true) (A : Nat → Bool) : needS L vol A ≤ haveS acc P L room A := by
 have h1 := cut_weak h A
 have h2 : restS L vol fl A = 0 := (sumN_congr fun b hb => by
  have h3 := h.lf b hb
  have h4 := done_iff.1 hd b hb
  show (if A b = true then leftF vol fl b else 0) = 0
  split <;> omega).trans sumN_zero
 omega
theorem is_cut {acc : Nat → Nat → Bool} {P L : Nat} {vol room : List Int} {fl : List (List Int)} (h : FlOk acc P L vol room fl) (hs : ∀ p, p < P → Shut acc P L vol room fl p) (hd : doneF L vol fl = false) {n : Nat} (hn : L ≤ n) :
 ∃ w, reachF acc P L n vol fl = some w ∧ RsI acc P L vol fl w ∧ haveS acc P L room (hasN w.bs) < needS L vol (hasN w.bs) := by
 obtain ⟨w, hw, hI, hX, hR⟩ := reach_ok (acc := acc) (P := P) (vol := vol) (fl := fl) hn
 have h1 := cut_strong h hs hI hX hR
 have hex : ∃ b, b < L ∧ 0 < leftF vol fl b := by
  refine Classical.byContradiction fun hno => ?_
  have : doneF L vol fl = true := done_iff.2 fun b hb => by
   refine Classical.byContradiction fun hb' => hno ⟨b, hb, by omega⟩
  rw [this] at hd; cases hd
 obtain ⟨b, hb, hl⟩ := hex
 have h2 := rest_pos h hb (hI.start b hb hl) hl
 exact ⟨w, hw, hI, by omega⟩
end Go.Proofs.Tryz
end

section
namespace Go.Proofs.Tryz
open Go Go.Vm
set_option maxRecDepth 20000
theorem sumN_hit {c : Int} {k : Nat} : ∀ {n : Nat}, sumN n (fun i => if i = k then c else 0) = if k < n then c else 0
 | 0 => by simp [sumN]
 | n + 1 => by
  rw [sumN, sumN_hit (n := n)]
  by_cases h1 : n = k
  ·subst h1; simp
  ·rw [if_neg h1]
   by_cases h2 : k < n
   ·rw [if_pos h2, if_pos (by omega)]; omega
   ·rw [if_neg h2, if_neg (by omega)]; rfl
section
variable {acc : Nat → Nat → Bool} {P L : Nat} {vol room : List Int} {ix : Int → Int}
def cutP (acc : Nat → Nat → Bool) (room : List Int) (b : Nat) (s : List Nat × Int) (p : Nat) : List Nat × Int :=
 if acc p b = false then s else if s.1.any (fun y => (y : Int) == (p : Int)) = true then s else (s.1 ++ [p], s.2 + room.getD p 0)
def cutR (acc : Nat → Nat → Bool) (P : Nat) (room : List Int) (b : Nat) (s : List Nat × Int) : List Nat × Int := (List.range P).foldl (cutP acc room b) s
def cutGo (acc : Nat → Nat → Bool) (P : Nat) (vol room : List Int) (ix : Int → Int) : List Int → Int → List Nat × Int → List Int → Option (Int × Int)
 | _, need, s, [] => some (need, s.2)
 | o, need, s, n :: r => if ix n < 0 then none else if o.any (fun c => c == n) = true then none
  else cutGo acc P vol room ix (o ++ [n]) (need + vol.getD (ix n).toNat 0) (cutR acc P room (ix n).toNat s) r
def cutB (acc : Nat → Nat → Bool) (P : Nat) (vol room : List Int) (ix : Int → Int) (cut : List Int) : Bool := match cutGo acc P vol room ix [] 0 ([], 0) cut with
 | none => false
 | some r => decide (r.2 < r.1)
def rcGo (vol : List Int) (ix : Int → Int) : List Int → Int → List Int → Option Int
 | _, need, [] => some need
 | o, need, n :: r => if ix n < 0 then none else if o.any (fun c => c == n) = true then none
  else rcGo vol ix (o ++ [n]) (need + vol.getD (ix n).toNat 0) r
def opnC (acc : Nat → Nat → Bool) (ix : Int → Int) (cut : List Int) (p : Nat) : Bool := cut.any fun n => acc p (ix n).toNat
def rcB (acc : Nat → Nat → Bool) (P : Nat) (vol room : List Int) (ix : Int → Int) (cut : List Int) : Bool := match rcGo vol ix [] 0 cut with
 | none => false
 | some need => decide (sumN P (fun p => if opnC acc ix cut p = true then room.getD p 0 else 0) < need)
def inC (ix : Int → Int) (o : List Int) (b : Nat) : Bool := o.any fun n => ix n == (b : Int)
structure CutJ (P : Nat) (room : List Int) (Q : Nat → Bool) (s : List Nat × Int) : Prop where
 mem : ∀ p, p < P → (p ∈ s.1 ↔ Q p = true)
 sum : s.2 = sumN P fun p => if Q p = true then room.getD p 0 else 0
theorem cutP_ok {Q : Nat → Bool} {s : List Nat × Int} {b p : Nat} (h : CutJ P room Q s) (hp : p < P) : CutJ P room (fun q => Q q || (q == p && acc q b)) (cutP acc room b s p) := by
 unfold cutP
 cases ha : acc p b with
 | false =>
  rw [if_pos rfl]
  have e : ∀ q, (Q q || (q == p && acc q b)) = Q q := fun q => by
   by_cases hq : q = p
   ·subst hq; rw [ha]; simp
   ·have : (q == p) = false := by simpa using hq
    rw [this]; simp
  exact ⟨fun q hq => by rw [e]; exact h.mem q hq, by simp only [e]; exact h.sum⟩
 | true =>
  rw [if_neg (by decide)]
  have hm := h.mem p hp
  have hany : s.1.any (fun y => (y : Int) == (p : Int)) = true ↔ p ∈ s.1 := by
   rw [List.any_eq_true]
   constructor
   ·rintro ⟨y, hy, he⟩
    have : y = p := by have := eq_of_beq he; omega
    rw [← this]; exact hy
   ·exact fun hy => ⟨p, hy, by simp⟩
  by_cases hin : p ∈ s.1
  ·rw [if_pos (hany.2 hin)]
   have hQ := hm.1 hin
   have e : ∀ q, (Q q || (q == p && acc q b)) = Q q := fun q => by
    by_cases hq : q = p
    ·subst hq; rw [hQ]; simp
    ·have : (q == p) = false := by simpa using hq
     rw [this]; simp
   exact ⟨fun q hq => by rw [e]; exact h.mem q hq, by simp only [e]; exact h.sum⟩
  ·rw [if_neg (fun hh => hin (hany.1 hh))]
   have hQ : Q p = false := by
    cases hc : Q p with
    | false => rfl
    | true => exact absurd (hm.2 hc) hin
   refine ⟨fun q hq => ?_, ?_⟩
   ·dsimp only
    rw [List.mem_append, List.mem_singleton, h.mem q hq]
    by_cases hqp : q = p
    ·subst hqp; simp [ha]
    ·simp [hqp]
   ·dsimp only
    have e : (fun q => if (Q q || (q == p && acc q b)) = true then room.getD q 0 else 0) = fun q => (if Q q = true then room.getD q 0 else 0) + if q = p then room.getD p 0 else 0 := by
     funext q
     by_cases hqp : q = p
     ·subst hqp; rw [hQ, ha]; simp
     ·rw [if_neg hqp]
      have : (q == p) = false := by simpa using hqp
      rw [this]; simp
    rw [e, sumN_add, sumN_hit, if_pos hp, h.sum]
theorem cutR_at {Q : Nat → Bool} {s : List Nat × Int} {b : Nat} (h : CutJ P room Q s) : ∀ i, i ≤ P → CutJ P room (fun q => Q q || (decide (q < i) && acc q b)) ((List.range i).foldl (cutP acc room b) s)
 | 0, _ => by
  have e : (fun q => Q q || (decide (q < 0) && acc q b)) = Q := by funext q; simp
  rw [e]; exact h
 | i + 1, hi => by
  have ih := cutP_ok (acc := acc) (b := b) (cutR_at (b := b) h i (by omega)) (show i < P by omega)
  rw [List.range_succ, List.foldl_append]
  have e : (fun q => Q q || (decide (q < i + 1) && acc q b)) = fun q => (Q q || (decide (q < i) && acc q b)) || (q == i && acc q b) := by
   funext q
   by_cases h1 : q < i
   ·have : ¬ q = i := by omega
    simp [h1, this, show q < i + 1 by omega]
   ·by_cases h2 : q = i
    ·subst h2; simp
    ·simp [h1, h2, show ¬ q < i + 1 by omega]
  rw [e]; exact ih
structure IxOk (ix : Int → Int) (L : Nat) : Prop where
 lt : ∀ n, ix n < L
 inj : ∀ n m, 0 ≤ ix n → ix n = ix m → n = m
theorem inC_snoc {o : List Int} {n : Int} {b : Nat} : inC ix (o ++ [n]) b = (inC ix o b || ix n == (b : Int)) := by
 simp [inC]
theorem opn_snoc (hix : IxOk ix L) {o : List Int} {n : Int} (hn : 0 ≤ ix n) {p : Nat} : openB acc L (inC ix (o ++ [n])) p = (openB acc L (inC ix o) p || acc p (ix n).toNat) := by
 have hl := hix.lt n
 rw [Bool.eq_iff_iff, Bool.or_eq_true, openB, openB, List.any_eq_true, List.any_eq_true]
 constructor
 ·rintro ⟨b, hb, h⟩
  rw [inC_snoc, Bool.and_eq_true, Bool.or_eq_true] at h
  rcases h.1 with h1 | h1
  ·exact .inl ⟨b, hb, by rw [h1, h.2]; rfl⟩
  ·have : (ix n).toNat = b := by have := eq_of_beq h1; omega
   rw [this]; exact .inr h.2
 ·rintro (⟨b, hb, h⟩ | h)
  ·rw [Bool.and_eq_true] at h
   exact ⟨b, hb, by rw [inC_snoc, h.1, h.2]; rfl⟩
  ·exact ⟨(ix n).toNat, List.mem_range.2 (by omega), by
    have : (ix n == ((ix n).toNat : Int)) = true := by simp; omega
    rw [inC_snoc, this, h]; simp⟩
theorem need_snoc (hix : IxOk ix L) {o : List Int} {n : Int} (hn : 0 ≤ ix n) (hno : ¬ o.any (fun c => c == n) = true) : needS L vol (inC ix (o ++ [n])) = needS L vol (inC ix o) + vol.getD (ix n).toNat 0 := by
 have hl := hix.lt n
 unfold needS
 have e : (fun b => if inC ix (o ++ [n]) b = true then vol.getD b 0 else 0) = fun b => (if inC ix o b = true then vol.getD b 0 else 0) + if b = (ix n).toNat then vol.getD (ix n).toNat 0 else 0 := by
  funext b
  by_cases hb : b = (ix n).toNat
  ·subst hb
   have h1 : (ix n == ((ix n).toNat : Int)) = true := by simp; omega
   have h2 : inC ix o (ix n).toNat = false := by
    rw [inC, List.any_eq_false]
    intro m hm he
    have h3 : ix m = ix n := by have := eq_of_beq he; omega
    have h4 := hix.inj n m hn h3.symm
    exact hno (List.any_eq_true.2 ⟨m, hm, by rw [h4]; simp⟩)
   rw [inC_snoc, h1, h2]; simp
  ·have h1 : (ix n == (b : Int)) = false := by simp; omega
   rw [inC_snoc, h1, if_neg hb]; simp
 rw [e, sumN_add, sumN_hit, if_pos (by omega)]
theorem cutGo_eq (hix : IxOk ix L) : ∀ {r o : List Int} {need : Int} {s : List Nat × Int}, need = needS L vol (inC ix o) → CutJ P room (openB acc L (inC ix o)) s →
 cutGo acc P vol room ix o need s r = (rcGo vol ix o need r).map (fun n => (n, haveS acc P L room (inC ix (o ++ r)))) ∧ ∀ n, rcGo vol ix o need r = some n → n = needS L vol (inC ix (o ++ r))
 | [], o, need, s, hn, hs => by
  rw [cutGo, rcGo, List.append_nil]
  refine ⟨by rw [Option.map_some, hs.sum]; rfl, fun n h => by cases h; exact hn⟩
 | n :: r, o, need, s, hn, hs => by
  rw [cutGo, rcGo]
  by_cases h1 : ix n < 0
  ·rw [if_pos h1, if_pos h1]; exact ⟨rfl, fun _ h => (by cases h)⟩
  rw [if_neg h1, if_neg h1]
  by_cases h2 : o.any (fun c => c == n) = true
  ·rw [if_pos h2, if_pos h2]; exact ⟨rfl, fun _ h => (by cases h)⟩
  rw [if_neg h2, if_neg h2]
  have hj := cutR_at (acc := acc) (b := (ix n).toNat) hs P (Nat.le_refl _)
  have e : ∀ q, q < P → (openB acc L (inC ix o) q || (decide (q < P) && acc q (ix n).toNat)) = openB acc L (inC ix (o ++ [n])) q := fun q hq => by
   rw [opn_snoc hix (by omega)]; simp [hq]
  have hj2 : CutJ P room (openB acc L (inC ix (o ++ [n]))) (cutR acc P room (ix n).toNat s) := ⟨fun p hp => by rw [← e p hp]; exact hj.mem p hp, by
   rw [cutR, hj.sum]; exact sumN_congr fun q hq => by rw [e q hq]⟩
  have ih := cutGo_eq hix (r := r) (need := need + vol.getD (ix n).toNat 0) (by rw [hn, need_snoc hix (by omega) h2]) hj2
  rw [List.append_assoc] at ih
  exact ih
theorem have_opn (hix : IxOk ix L) {cut : List Int} (hc : ∀ n ∈ cut, 0 ≤ ix n) : haveS acc P L room (inC ix cut) = sumN P (fun p => if opnC acc ix cut p = true then room.getD p 0 else 0) := by
 refine sumN_congr fun p _ => ?_
 have : openB acc L (inC ix cut) p = opnC acc ix cut p := by
  rw [Bool.eq_iff_iff, openB, opnC, List.any_eq_true, List.any_eq_true]
  constructor
  ·rintro ⟨b, hb, h⟩
   rw [Bool.and_eq_true, inC, List.any_eq_true] at h
   obtain ⟨⟨n, hn, he⟩, h⟩ := h
   have : (ix n).toNat = b := by have := eq_of_beq he; omega
   exact ⟨n, hn, by rw [this]; exact h⟩
  ·rintro ⟨n, hn, h⟩
   have h1 := hix.lt n
   have h2 := hc n hn
   refine ⟨(ix n).toNat, List.mem_range.2 (by omega), ?_⟩
   rw [Bool.and_eq_true]
   exact ⟨List.any_eq_true.2 ⟨n, hn, by simp; omega⟩, h⟩
 rw [this]
theorem rcGo_nn {vol : List Int} {ix : Int → Int} : ∀ {r o : List Int} {need z : Int}, rcGo vol ix o need r = some z → ∀ n ∈ r, 0 ≤ ix n
 | [], _, _, _, _ => fun _ h => (by cases h)
 | n :: r, o, need, z, h => by
  rw [rcGo] at h
  split at h
  ·cases h
  split at h
  ·cases h
  intro m hm
  rcases List.mem_cons.1 hm with rfl | hm
  ·omega
  ·exact rcGo_nn h m hm
theorem cut_eq (hix : IxOk ix L) (cut : List Int) : cutB acc P vol room ix cut = rcB acc P vol room ix cut := by
 have hJ : CutJ P room (openB acc L (inC ix [])) ([], 0) := by
  have e : ∀ p, openB acc L (inC ix []) p = false := fun p => by
   rw [openB, List.any_eq_false]; intro b _; simp [inC]
  refine ⟨fun p _ => by rw [e]; simp, ?_⟩
  simp only [e]
  exact sumN_zero.symm
 have h0 : (0 : Int) = needS L vol (inC ix []) := by
  unfold needS
  have e : ∀ b, inC ix [] b = false := fun b => rfl
  simp only [e]
  exact sumN_zero.symm
 have h := cutGo_eq (acc := acc) (P := P) (room := room) hix (r := cut) h0 hJ
 rw [cutB, rcB, h.1]
 cases hr : rcGo vol ix [] 0 cut with
 | none => rfl
 | some z =>
  rw [Option.map_some, List.nil_append, have_opn hix (rcGo_nn hr)]
theorem cut_says (hix : IxOk ix L) {cut : List Int} (h : cutB acc P vol room ix cut = true) : haveS acc P L room (inC ix cut) < needS L vol (inC ix cut) := by
 rw [cut_eq hix] at h
 rw [rcB] at h
 have hJ : CutJ P room (openB acc L (inC ix [])) ([], 0) := by
  have e : ∀ p, openB acc L (inC ix []) p = false := fun p => by
   rw [openB, List.any_eq_false]; intro b _; simp [inC]
  refine ⟨fun p _ => by rw [e]; simp, ?_⟩
  simp only [e]
  exact sumN_zero.symm
 have h0 : (0 : Int) = needS L vol (inC ix []) := by
  unfold needS
  have e : ∀ b, inC ix [] b = false := fun b => rfl
  simp only [e]
  exact sumN_zero.symm
 have h2 := (cutGo_eq (acc := acc) (P := P) (room := room) hix (r := cut) h0 hJ).2
 cases hr : rcGo vol ix [] 0 cut with
 | none => rw [hr] at h; cases h
 | some z =>
  rw [hr] at h
  have := h2 z hr
  rw [List.nil_append] at this
  rw [← this, have_opn hix (rcGo_nn hr)]
  simpa using h
end
end Go.Proofs.Tryz
end

section
namespace Go.Proofs.Tryz
open Go Go.Vm
set_option maxRecDepth 20000
theorem pitI_name {y : Yd} (h : ydErr y = 0) {p : Nat} (hp : p < y.pits.length) : pitI y (nameF y p) = p := by
 obtain ⟨q, hq⟩ := some_of_lt hp
 have e : nameF y p = q.name := by rw [nameF, hq]
 rw [e]
 exact pitI_self h hq
theorem mem_allF {y : Yd} {l : List Bt} {fl : List (List Int)} {a : Al} : ∀ {i : Nat}, a ∈ allF y l fl i → ∃ b p, b < i ∧ p < y.pits.length ∧ 0 < cellZ fl b p ∧ a = ⟨numF l b, nameF y p, cellZ fl b p⟩ := by
 intro i h
 rw [allF, List.mem_flatMap] at h
 obtain ⟨b, hb, h⟩ := h
 rw [rowA, List.mem_filterMap] at h
 obtain ⟨p, hp, h⟩ := h
 rw [cellA] at h
 split at h
 ·rename_i hc
  cases h
  exact ⟨b, p, List.mem_range.1 hb, List.mem_range.1 hp, hc, rfl⟩
 ·cases h
theorem cost_row {y : Yd} {l : List Bt} {fl : List (List Int)} (h : ydErr y = 0) (hn : ∀ b p, 0 ≤ cellZ fl b p) (b : Nat) : ∀ k, k ≤ y.pits.length → ((rowA y l fl b k).map (prA y)).sum = sumN k fun p => cellZ fl b p * priceF y p
 | 0, _ => rfl
 | k + 1, hk => by
  rw [rowA_succ, List.map_append, List.sum_append, cost_row h hn b k (by omega), sumN]
  congr 1
  have := hn b k
  split
  ·simp only [List.map_cons, List.map_nil, List.sum_cons, List.sum_nil, Int.add_zero]
   rw [prA]
   simp only
   rw [pitI_name h (by omega), Int.toNat_natCast]
  ·rw [show cellZ fl b k = 0 by omega]; simp
theorem cost_all {y : Yd} {l : List Bt} {fl : List (List Int)} (h : ydErr y = 0) (hn : ∀ b p, 0 ≤ cellZ fl b p) : ∀ i, costF y (allF y l fl i) = sumN i fun b => sumN y.pits.length fun p => cellZ fl b p * priceF y p
 | 0 => rfl
 | i + 1 => by
  rw [allF_succ, costF, List.map_append, List.sum_append, cost_row h hn i _ (Nat.le_refl _), sumN, ← cost_all h hn i]
  rfl
theorem sumN_mul {f : Nat → Int} {c : Int} : ∀ {n : Nat}, sumN n (fun i => f i * c) = sumN n f * c
 | 0 => by simp [sumN]
 | n + 1 => by rw [sumN, sumN, sumN_mul, Int.add_mul]
theorem sumN_bd {f : Nat → Int} {M : Int} : ∀ {n : Nat}, (∀ i, i < n → f i ≤ M) → sumN n f ≤ n * M
 | 0, _ => by simp [sumN]
 | n + 1, h => by
  have h1 := sumN_bd (n := n) fun i hi => h i (by omega)
  have h2 := h n (by omega)
  have : ((n + 1 : Nat) : Int) * M = n * M + M := by rw [Int.natCast_add, Int.add_mul]; simp
  rw [sumN]; omega
theorem priceF_bd {y : Yd} (h : YdOk y) (p : Nat) : 0 ≤ priceF y p ∧ priceF y p ≤ 10000 := by
 unfold priceF
 cases hq : y.pits[p]? with
 | none => simp
 | some q => exact pt_price h q (List.mem_of_getElem? hq)
theorem cost_pits {y : Yd} {l : List Bt} {fl : List (List Int)} (h : ydErr y = 0) (hn : ∀ b p, 0 ≤ cellZ fl b p) (hd : Dim y.pits.length l.length fl) {room : List Int} :
 costF y (allF y l fl l.length) = sumN y.pits.length fun p => (room.getD p 0 - freeF room fl p) * priceF y p := by
 rw [cost_all h hn, sumN_swap]
 refine sumN_congr fun p _ => ?_
 rw [sumN_mul, free_sum hd]
 congr 1
 omega
theorem cost_bd {y : Yd} {l : List Bt} {fl : List (List Int)} (h : LsOk y l) (hf : FlOk (accF y l) y.pits.length l.length (volF y l) (roomF y) fl) : costF y (allF y l fl l.length) ≤ 9000000000000000000 := by
 have hy := yd_ok h.yd
 rw [cost_pits h.yd hf.nn hf.dim (room := roomF y)]
 have := sumN_bd (f := fun p => ((roomF y).getD p 0 - freeF (roomF y) fl p) * priceF y p) (M := 400000000000000000) (n := y.pits.length) fun p hp => by
  have h1 := hf.fr p hp
  have h2 := room_bd hy p
  have h3 := priceF_bd hy p
  have h4 : 0 ≤ (roomF y).getD p 0 - freeF (roomF y) fl p := by
   rw [free_sum hf.dim]
   have := sumN_nn (f := fun b => cellZ fl b p) (n := l.length) fun b _ => hf.nn b p
   omega
  have := Int.mul_le_mul (show (roomF y).getD p 0 - freeF (roomF y) fl p ≤ 40000000000000 by omega) (show priceF y p ≤ 10000 by omega) (by omega) (by decide)
  omega
 have := hy.pits
 omega
theorem all_ok {y : Yd} {l : List Bt} {fl : List (List Int)} (h : LsOk y l) (hf : FlOk (accF y l) y.pits.length l.length (volF y l) (roomF y) fl) : ∀ a ∈ allF y l fl l.length, 0 ≤ pitI y a.pit ∧ 0 ≤ a.vol ∧ a.vol ≤ 100000000000000000 := by
 intro a ha
 obtain ⟨b, p, hb, hp, hc, rfl⟩ := mem_allF ha
 dsimp only
 rw [pitI_name h.yd hp]
 refine ⟨by omega, by omega, ?_⟩
 have h1 := hf.lf b hb
 rw [left_sum hf.dim hb] at h1
 have h2 := sumN_one (f := cellZ fl b) (n := y.pits.length) (i := p) (fun i _ => hf.nn b i) hp
 have h3 := vol_bd h b
 omega
end Go.Proofs.Tryz
end

section
namespace Go.Proofs.Tryz
open Go Go.Vm
set_option maxRecDepth 20000
section
variable {acc : Nat → Nat → Bool} {P L : Nat} {vol room : List Int} {pr : Nat → Int}
theorem zero_of_free {fl : List (List Int)} (h : FlOk acc P L vol room fl) {p : Nat} (hf : freeF room fl p = room.getD p 0) : ∀ b, b < L → cellZ fl b p = 0 := by
 intro b hb
 rw [free_sum h.dim] at hf
 have h1 := sumN_one (f := fun b => cellZ fl b p) (n := L) (i := b) (fun i _ => h.nn i p) hb
 have h2 := h.nn b p
 omega
theorem fills_greedy (hv : ∀ b, vol.getD b 0 ≤ 100000000000000000) {n : Nat} (hn : L ≤ n) (hnP : P ≤ n) (le : Nat → Nat → Prop) : ∀ {s : List Nat} {fl fl' : List (List Int)} {D : Nat → Prop}, (∀ p ∈ s, p < P) → s.Nodup → s.Pairwise le → (∀ d, D d → ∀ q ∈ s, le d q) →
 FlOk acc P L vol room fl → (∀ p, ¬ D p → ∀ b, b < L → cellZ fl b p = 0) → (∃ k, ∀ j, k ≤ j → fillsF acc P L n j vol room s fl = some fl') →
 ∀ q, q ∈ s → 0 < freeF room fl' q → ∀ p, Rch acc P L fl' p q → p = q ∨ le p q
 | [], _, _, _, _, _, _, _, _, _, _ => fun q hq => by cases hq
 | p0 :: s, fl, fl', D, hs, hnd, hpw, hD, h, hz, ⟨k, hk⟩ => by
  have hp := hs p0 List.mem_cons_self
  rw [List.nodup_cons] at hnd
  rw [List.pairwise_cons] at hpw
  obtain ⟨m, hm⟩ := Int.eq_ofNat_of_zero_le (totL_nn h.lf L (Nat.le_refl _))
  obtain ⟨f1, ⟨k1, g1⟩, g2, g3, g4, g5, g6⟩ := fill_run hv hn hnP hp m h (by omega)
  have hk' : ∃ k, ∀ j, k ≤ j → fillsF acc P L n j vol room s f1 = some fl' := ⟨max k k1, fun j hj => by
   have := hk j (by omega)
   rw [fillsF, g1 j (by omega)] at this
   exact this⟩
  have hz1 : ∀ p, ¬ (D p ∨ p = p0) → ∀ b, b < L → cellZ f1 b p = 0 := fun p hp' => by
   rw [not_or] at hp'
   refine zero_of_free g2 ?_
   rw [(g4 p hp'.2).1, free_sum h.dim, sumN_congr (g := fun _ => 0) (fun b hb => hz p hp'.1 b hb), sumN_zero]; omega
  have ih := fills_greedy hv hn hnP le (D := fun p => D p ∨ p = p0) (fun p hp => hs p (List.mem_cons_of_mem _ hp)) hnd.2 hpw.2 (fun d hd q hq => by
   rcases hd with hd | rfl
   ·exact hD d hd q (List.mem_cons_of_mem _ hq)
   ·exact hpw.1 q hq) g2 hz1 hk'
  intro q hq hfr p hr
  rcases List.mem_cons.1 hq with rfl | hq
  ·obtain ⟨f2, ⟨k2, r1⟩, r2, r3, r4, r5, r6⟩ := fills_run hv hn hnP (fun p hp => hs p (List.mem_cons_of_mem _ hp)) g2
   have e : f2 = fl' := by
    obtain ⟨k', hk'⟩ := hk'
    have a := r1 (max k2 k') (by omega)
    have b := hk' (max k2 k') (by omega)
    rw [a] at b
    exact Option.some.inj b
   subst e
   rw [r4 q hnd.1] at hfr
   have hnw : ¬ ∃ st, Way acc P L vol f1 q st := by
    rcases g3 with h1 | h1
    ·exact h1
    ·omega
   have hr1 := (r6 q hnw).2 p hr
   cases hr1 with
   | refl => exact .inl rfl
   | step hb hc hp' ha h' =>
    by_cases hDp : D p ∨ p = q
    ·rcases hDp with hd | rfl
     ·exact .inr (hD p hd q List.mem_cons_self)
     ·exact .inl rfl
    ·rw [hz1 p hDp _ hb] at hc
     exact absurd hc (by decide)
  ·exact ih q hq hfr p hr
/-! The loop. -/
variable {fl : List (List Int)}
theorem tf1_ok9 {s : Tf} (h : TfI acc P L room pr fl s) {b p : Nat} (hb : b < L) (hp : p < P) (ha : acc p b = true) : TfI acc P L room pr fl (tf1 pr b s p) ∧ TR s (tf1 pr b s p) ∧ ((tf1 pr b s p).again = false → s.bs.getD b 0 ≤ pr p + s.ps.getD p 0) := by
 unfold tf1
 split
 ·rename_i hc
  have hbl : b < s.bs.length := by rw [h.bl]; exact hb
  refine ⟨⟨by rw [List.length_set]; exact h.bl, h.pl, fun b' hb' => ?_, h.p, h.f⟩, .inr ⟨rfl, ?_⟩, fun h => by cases h⟩
  ·dsimp only
   rw [getD_set9 hbl]
   split
   ·rename_i e
    subst e
    refine ⟨?_, by have := (h.b b hb).2; omega⟩
    rcases (h.p p hp).1 with e | ⟨q, hq, hr, e⟩
    ·exact .inl (by rw [e]; omega)
    ·refine .inr ⟨p, q, hp, hq, ha, hr, ?_⟩
     rcases e with ⟨e1, e2⟩ | e
     ·exact .inl ⟨e1, by rw [e2]; omega⟩
     ·exact .inr (by rw [e]; omega)
   ·exact h.b b' hb'
  ·dsimp only
   rw [sum_set9 hbl]; omega
 ·rename_i hc
  exact ⟨h, .inl rfl, fun _ => by omega⟩
theorem tf2_ok9 {s : Tf} (h : TfI acc P L room pr fl s) {b p : Nat} (hb : b < L) (hp : p < P) : TfI acc P L room pr fl (tf2 pr fl b s p) ∧ TR s (tf2 pr fl b s p) ∧ ((tf2 pr fl b s p).again = false → 0 < cellZ fl b p → s.ps.getD p 0 ≤ s.bs.getD b 0 - pr p) := by
 unfold tf2
 split
 ·rename_i hc
  have hpl : p < s.ps.length := by rw [h.pl]; exact hp
  refine ⟨⟨h.bl, by rw [List.length_set]; exact h.pl, h.b, fun p' hp' => ?_, fun p' hp' hf => ?_⟩, .inr ⟨rfl, ?_⟩, fun h => by cases h⟩
  ·dsimp only
   rw [getD_set9 hpl]
   split
   ·rename_i e
    subst e
    refine ⟨?_, by have := (h.p p hp).2; omega⟩
    rcases (h.b b hb).1 with e | ⟨p', q, hp', hq, ha, hr, e⟩
    ·exact .inl (by rw [e])
    ·refine .inr ⟨q, hq, .step hb hc.1 hp' ha hr, ?_⟩
     rcases e with ⟨e1, e2⟩ | e
     ·exact .inl ⟨e1, by rw [e2]⟩
     ·exact .inr (by rw [e])
   ·exact h.p p' hp'
  ·dsimp only
   rw [getD_set9 hpl]
   split
   ·rename_i e
    subst e
    have := h.f p hp hf
    omega
   ·exact h.f p' hp' hf
  ·dsimp only
   rw [sum_set9 hpl]; omega
 ·rename_i hc
  exact ⟨h, .inl rfl, fun _ hcl => by
   refine Classical.byContradiction fun hn => hc ⟨hcl, by omega⟩⟩
def TF (acc : Nat → Nat → Bool) (pr : Nat → Int) (fl : List (List Int)) (s : Tf) (b p : Nat) : Prop := acc p b = true → s.bs.getD b 0 ≤ pr p + s.ps.getD p 0 ∧ (0 < cellZ fl b p → s.ps.getD p 0 ≤ s.bs.getD b 0 - pr p)
theorem tfP_ok9 {s : Tf} (h : TfI acc P L room pr fl s) {b p : Nat} (hb : b < L) (hp : p < P) : TfI acc P L room pr fl (tfP acc pr fl b s p) ∧ TR s (tfP acc pr fl b s p) ∧ ((tfP acc pr fl b s p).again = false → TF acc pr fl s b p) := by
 unfold tfP
 split
 ·rename_i ha
  obtain ⟨h1, h2, h3⟩ := tf1_ok9 h hb hp ha
  obtain ⟨k1, k2, k3⟩ := tf2_ok9 h1 hb hp
  refine ⟨k1, h2.trans k2, fun hag _ => ?_⟩
  have e2 := k2.back hag
  rw [e2] at hag
  have e1 := h2.back hag
  rw [e2] at k3
  have := k3 hag
  rw [e1] at this
  exact ⟨h3 hag, this⟩
 ·rename_i ha
  exact ⟨h, .inl rfl, fun _ h' => absurd h' ha⟩
theorem tfB_ok9 {s : Tf} (h : TfI acc P L room pr fl s) {b : Nat} (hb : b < L) : ∀ i, i ≤ P → TfI acc P L room pr fl ((List.range i).foldl (tfP acc pr fl b) s) ∧ TR s ((List.range i).foldl (tfP acc pr fl b) s) ∧ (((List.range i).foldl (tfP acc pr fl b) s).again = false → ∀ p, p < i → TF acc pr fl s b p)
 | 0, _ => ⟨h, .inl rfl, fun _ p hp => absurd hp (by omega)⟩
 | i + 1, hi => by
  obtain ⟨h1, h2, h3⟩ := tfB_ok9 h hb i (by omega)
  rw [range_snoc]
  obtain ⟨k1, k2, k3⟩ := tfP_ok9 h1 hb (p := i) (by omega)
  refine ⟨k1, h2.trans k2, fun hag p hp => ?_⟩
  have e2 := k2.back hag
  have hag' := hag
  rw [e2] at hag'
  have e1 := h2.back hag'
  by_cases e : p = i
  ·subst e
   have := k3 hag
   rw [e1] at this
   exact this
  ·exact h3 hag' p (by omega)
theorem tfR_ok9 {s : Tf} (h : TfI acc P L room pr fl s) : ∀ i, i ≤ L → TfI acc P L room pr fl ((List.range i).foldl (tfB acc pr fl P) s) ∧ TR s ((List.range i).foldl (tfB acc pr fl P) s) ∧ (((List.range i).foldl (tfB acc pr fl P) s).again = false → ∀ b, b < i → ∀ p, p < P → TF acc pr fl s b p)
 | 0, _ => ⟨h, .inl rfl, fun _ p hp => absurd hp (by omega)⟩
 | i + 1, hi => by
  obtain ⟨h1, h2, h3⟩ := tfR_ok9 h i (by omega)
  rw [range_snoc]
  obtain ⟨k1, k2, k3⟩ := tfB_ok9 h1 (b := i) (by omega) P (Nat.le_refl _)
  refine ⟨k1, h2.trans k2, fun hag b hb => ?_⟩
  have hag : ((List.range P).foldl (tfP acc pr fl i) ((List.range i).foldl (tfB acc pr fl P) s)).again = false := hag
  have e2 := k2.back hag
  have hag' := hag
  rw [e2] at hag'
  have e1 := h2.back hag'
  by_cases e : b = i
  ·subst e
   have := k3 hag
   rw [e1] at this
   exact this
  ·exact h3 hag' b (by omega)
theorem tf_run (hpr : ∀ p, 0 ≤ pr p ∧ pr p ≤ 10000) (hG : ∀ p q, p < P → q < P → 0 < freeF room fl q → Rch acc P L fl p q → pr p ≤ pr q) : ∀ (N : Nat) {s : Tf}, TfI acc P L room pr fl s → s.again = true → s.bs.sum + s.ps.sum ≤ N →
 ∃ m t, tfGo acc pr fl P L m s = some t ∧ TfI acc P L room pr fl t ∧ ∀ b, b < L → ∀ p, p < P → TF acc pr fl t b p := by
 intro N
 induction N with
 | zero =>
  intro s h ha hN
  obtain ⟨n1, n2⟩ := h.nn hpr hG
  have hok : okTf s = true := by
   rw [okTf, Bool.and_eq_true, List.all_eq_true, List.all_eq_true]
   exact ⟨fun x hx => by have := n1 x hx; simp [okT]; omega, fun x hx => by have := n2 x hx; simp [okT]; omega⟩
  have h0 : TfI acc P L room pr fl ⟨s.bs, s.ps, false⟩ := ⟨h.bl, h.pl, h.b, h.p, h.f⟩
  obtain ⟨k1, k2, k3⟩ := tfR_ok9 h0 L (Nat.le_refl _)
  have hr : tfR acc pr fl P L s = (List.range L).foldl (tfB acc pr fl P) ⟨s.bs, s.ps, false⟩ := rfl
  rw [← hr] at k1 k2 k3
  cases hag : (tfR acc pr fl P L s).again with
  | false =>
   refine ⟨1, tfR acc pr fl P L s, ?_, k1, fun b hb p hp => ?_⟩
   ·rw [tfGo, if_neg (by rw [ha]; decide), if_pos hok, tfGo, if_pos hag]
   ·rw [k2.back hag]; exact k3 hag b hb p hp
  | true =>
   exfalso
   rcases k2 with e | ⟨-, hlt⟩
   ·rw [e] at hag; cases hag
   ·obtain ⟨m1, m2⟩ := k1.nn hpr hG
    have := sum_nn (l := (tfR acc pr fl P L s).bs) fun x hx => (m1 x hx).1
    have := sum_nn (l := (tfR acc pr fl P L s).ps) fun x hx => (m2 x hx).1
    dsimp only at hlt
    omega
 | succ N ih =>
  intro s h ha hN
  obtain ⟨n1, n2⟩ := h.nn hpr hG
  have hok : okTf s = true := by
   rw [okTf, Bool.and_eq_true, List.all_eq_true, List.all_eq_true]
   exact ⟨fun x hx => by have := n1 x hx; simp [okT]; omega, fun x hx => by have := n2 x hx; simp [okT]; omega⟩
  have h0 : TfI acc P L room pr fl ⟨s.bs, s.ps, false⟩ := ⟨h.bl, h.pl, h.b, h.p, h.f⟩
  obtain ⟨k1, k2, k3⟩ := tfR_ok9 h0 L (Nat.le_refl _)
  have hr : tfR acc pr fl P L s = (List.range L).foldl (tfB acc pr fl P) ⟨s.bs, s.ps, false⟩ := rfl
  rw [← hr] at k1 k2 k3
  cases hag : (tfR acc pr fl P L s).again with
  | false =>
   refine ⟨1, tfR acc pr fl P L s, ?_, k1, fun b hb p hp => ?_⟩
   ·rw [tfGo, if_neg (by rw [ha]; decide), if_pos hok, tfGo, if_pos hag]
   ·rw [k2.back hag]; exact k3 hag b hb p hp
  | true =>
   have hlt : (tfR acc pr fl P L s).bs.sum + (tfR acc pr fl P L s).ps.sum < s.bs.sum + s.ps.sum := by
    rcases k2 with e | ⟨-, hlt⟩
    ·rw [e] at hag; cases hag
    ·exact hlt
   obtain ⟨m, t, h1, h2, h3⟩ := ih k1 hag (by omega)
   exact ⟨m + 1, t, by rw [tfGo, if_neg (by rw [ha]; decide), if_pos hok]; exact h1, h2, h3⟩
end
end Go.Proofs.Tryz
end

section
namespace Go.Proofs.Tryz
open Go Go.Vm
set_option maxRecDepth 20000
section
variable {acc : Nat → Nat → Bool} {P L : Nat} {vol room : List Int} {pr : Nat → Int} {fl : List (List Int)}
theorem setF_get {g : Nat → Int} {n : Nat} : ∀ i, i ≤ n → ∀ j, ((List.range i).foldl (fun s p => s.set p (g p)) (List.replicate n (0 : Int))).getD j 0 = if j < i then g j else 0
 | 0, _, j => by
  rw [List.getD_eq_getElem?_getD]
  simp only [List.range_zero, List.foldl_nil, List.getElem?_replicate]
  split <;> simp
 | i + 1, hi, j => by
  rw [range_snoc, getD_set9 (by rw [setF_len]; omega), setF_get i (by omega) j]
  by_cases e : i = j
  ·subst e; rw [if_pos rfl, if_pos (by omega)]
  ·rw [if_neg e]
   by_cases h : j < i
   ·rw [if_pos h, if_pos (by omega)]
   ·rw [if_neg h, if_neg (by omega)]
theorem tfS_ok : TfI acc P L room pr fl (tfS P L room fl) := by
 refine ⟨setF_len L, setF_len P, fun b hb => ?_, fun p hp => ?_, fun p hp hf => ?_⟩
 ·show TB acc P L room pr fl b (((List.range L).foldl (fun s b => s.set b 10000) (List.replicate L (0 : Int))).getD b 0) ∧ ((List.range L).foldl (fun s b => s.set b 10000) (List.replicate L (0 : Int))).getD b 0 ≤ 10000
  rw [setF_get (g := fun _ => 10000) L (Nat.le_refl _) b, if_pos hb]
  exact ⟨.inl rfl, Int.le_refl _⟩
 ·show TP acc P L room pr fl p (((List.range P).foldl (fun s p => s.set p (if 0 < freeF room fl p then 0 else 10000)) (List.replicate P (0 : Int))).getD p 0) ∧ ((List.range P).foldl (fun s p => s.set p (if 0 < freeF room fl p then 0 else 10000)) (List.replicate P (0 : Int))).getD p 0 ≤ 10000
  rw [setF_get (g := fun p => if 0 < freeF room fl p then 0 else 10000) P (Nat.le_refl _) p, if_pos hp]
  split
  ·rename_i hf
   exact ⟨.inr ⟨p, hp, .refl p, .inl ⟨hf, by omega⟩⟩, by decide⟩
  ·exact ⟨.inr ⟨p, hp, .refl p, .inr (by omega)⟩, by decide⟩
 ·show ((List.range P).foldl (fun s p => s.set p (if 0 < freeF room fl p then 0 else 10000)) (List.replicate P (0 : Int))).getD p 0 ≤ 0
  rw [setF_get (g := fun p => if 0 < freeF room fl p then 0 else 10000) P (Nat.le_refl _) p, if_pos hp, if_pos hf]
  decide
end
end Go.Proofs.Tryz
end

section
namespace Go.Proofs.Tryz
open Go Go.Vm
set_option maxRecDepth 20000
theorem insR_desc {pr : Nat → Int} {x : Nat} : ∀ {R : List Nat}, (∀ z ∈ R, z < x) → R.Pairwise (fun a b => leP pr b a) → (insR pr x R).Pairwise fun a b => leP pr b a
 | [], _, _ => by simp [insR]
 | a :: r, hl, hR => by
  rw [List.pairwise_cons] at hR
  rw [insR]
  split
  ·rename_i hc
   refine List.pairwise_cons.2 ⟨fun z hz => ?_, insR_desc (fun z hz => hl z (List.mem_cons_of_mem _ hz)) hR.2⟩
   rcases insR_mem.1 hz with rfl | hz
   ·exact .inl hc
   ·exact hR.1 z hz
  ·rename_i hc
   have hax : leP pr a x := by
    have := hl a List.mem_cons_self
    unfold leP; omega
   refine List.pairwise_cons.2 ⟨fun z hz => ?_, List.pairwise_cons.2 hR⟩
   rcases List.mem_cons.1 hz with rfl | hz
   ·exact hax
   ·exact (hR.1 z hz).trans hax
theorem sortGo_asc {pr : Nat → Int} : ∀ {s R : List Nat}, (∀ z ∈ R, ∀ x ∈ s, z < x) → s.Pairwise (· < ·) → R.Pairwise (fun a b => leP pr b a) → (sortGo pr R s).Pairwise (leP pr)
 | [], R, _, _, h => by
  rw [sortGo, List.pairwise_reverse]; exact h
 | x :: r, R, hz, hs, h => by
  rw [List.pairwise_cons] at hs
  rw [sortGo]
  refine sortGo_asc (fun z hz' q hq => ?_) hs.2 (insR_desc (fun z hz' => hz z hz' x List.mem_cons_self) h)
  rcases insR_mem.1 hz' with rfl | hz'
  ·exact hs.1 q hq
  ·exact hz z hz' q (List.mem_cons_of_mem _ hq)
theorem ordF_asc {y : Yd} : (ordF y).Pairwise (leP (priceF y)) := sortGo_asc (fun z hz => by cases hz) List.pairwise_lt_range .nil
theorem ordF_nodup {y : Yd} : (ordF y).Nodup := ordF_asc.imp fun h e => by subst e; unfold leP at h; omega
theorem cheap_run {y : Yd} {l : List Bt} (h : LsOk y l) : ∃ fl k, fillsF (accF y l) y.pits.length l.length 20 k (volF y l) (roomF y) (ordF y) (flow0 y l) = some fl ∧ FlOk (accF y l) y.pits.length l.length (volF y l) (roomF y) fl ∧
 (∀ p, p < y.pits.length → Shut (accF y l) y.pits.length l.length (volF y l) (roomF y) fl p) ∧
 ∃ m t, tfGo (accF y l) (priceF y) fl y.pits.length l.length m (tfS y.pits.length l.length (roomF y) fl) = some t ∧ TfI (accF y l) y.pits.length l.length (roomF y) (priceF y) fl t ∧ (∀ x ∈ t.bs, 0 ≤ x ∧ x ≤ 10000) ∧ (∀ x ∈ t.ps, 0 ≤ x ∧ x ≤ 10000) ∧
  ∀ b, b < l.length → ∀ p, p < y.pits.length → TF (accF y l) (priceF y) fl t b p := by
 have hy := yd_ok h.yd
 have hP := hy.pits
 have hL := h.len
 have hv : ∀ b, (volF y l).getD b 0 ≤ 100000000000000000 := fun b => by have := vol_bd h b; omega
 obtain ⟨fl, ⟨k, hk⟩, h2, h3, -, -, -⟩ := fills_run hv (n := 20) (by omega) (by omega) (s := ordF y) (fun p hp => ordF_mem.1 hp) (fl_flow0 h)
 have hG0 := fills_greedy hv (n := 20) (by omega) (by omega) (fun p q => priceF y p ≤ priceF y q) (s := ordF y) (D := fun _ => False) (fun p hp => ordF_mem.1 hp) ordF_nodup
  (ordF_asc.imp fun h => by unfold leP at h; omega) (fun d hd => hd.elim) (fl_flow0 h) (fun p _ b _ => cell_flow0) ⟨k, hk⟩
 have hG : ∀ p q, p < y.pits.length → q < y.pits.length → 0 < freeF (roomF y) fl q → Rch (accF y l) y.pits.length l.length fl p q → priceF y p ≤ priceF y q := fun p q _ hq hf hr => by
  rcases hG0 q (ordF_mem.2 hq) hf p hr with rfl | h1
  ·exact Int.le_refl _
  ·exact h1
 have hs := tfS_ok (acc := accF y l) (P := y.pits.length) (L := l.length) (room := roomF y) (pr := priceF y) (fl := fl)
 obtain ⟨n1, n2⟩ := hs.nn (priceF_bd hy) hG
 have s1 := sum_nn (l := (tfS y.pits.length l.length (roomF y) fl).bs) fun x hx => (n1 x hx).1
 have s2 := sum_nn (l := (tfS y.pits.length l.length (roomF y) fl).ps) fun x hx => (n2 x hx).1
 obtain ⟨N, hN⟩ := Int.eq_ofNat_of_zero_le (show 0 ≤ (tfS y.pits.length l.length (roomF y) fl).bs.sum + (tfS y.pits.length l.length (roomF y) fl).ps.sum by omega)
 obtain ⟨m, t, t1, t2, t3⟩ := tf_run (priceF_bd hy) hG N hs rfl (by omega)
 obtain ⟨m1, m2⟩ := t2.nn (priceF_bd hy) hG
 exact ⟨fl, k, hk k (Nat.le_refl _), h2, fun p hp => h3 p (.inl (ordF_mem.2 hp)), m, t, t1, t2, m1, m2, t3⟩
end Go.Proofs.Tryz
end

section
namespace Go.Proofs.Tryz
open Go Go.Vm
set_option maxRecDepth 20000
theorem atI_ok {l : List Bt} : IxOk (atI l) l.length := ⟨fun n => ix_lt, fun n m h0 he => by
 obtain ⟨i, r, h1, h2, h3⟩ := ix_at (p := fun b : Bt => b.n == n) (l := l) (show ¬ atI l n < 0 by omega)
 obtain ⟨j, s, k1, k2, k3⟩ := ix_at (p := fun b : Bt => b.n == m) (l := l) (show ¬ atI l m < 0 by omega)
 have e1 : atI l n = i := h1
 have e2 : atI l m = j := k1
 have : i = j := by omega
 subst this
 rw [h2] at k2
 cases k2
 exact (eq_of_beq h3).symm.trans (eq_of_beq k3)⟩
section
variable {acc : Nat → Nat → Bool} {P L : Nat} {vol room : List Int} {pr : Nat → Int} {ib : Int → Int} {ip : ByteArray → Int}
end
section
variable {y : Yd} {l : List Bt} {fl : List (List Int)}
end
end Go.Proofs.Tryz
end

section
namespace Go.Proofs.Tryz
open Go Go.Vm
set_option maxRecDepth 20000
set_option maxHeartbeats 8000000
def tkC (y : Yd) (l : List Bt) (vol room : List Int) (fl : List (List Int)) : List D :=
 [.sl 6 (y.pits.map ptD), .sl 3 (y.bulk.map bkD), .sl 3 (y.deps.map dpD), .sl 1 (y.carry.map iD), .sl 5 (l.map btD), .sl 1 (vol.map iD), .sl 1 (room.map iD), .sl 1 ((fl.map fun r => r.map iD).map (.sl 1))]
theorem ev_begin {y : Yd} {l : List Bt} (hs : smallP y) (hl : l.length ≤ 1000000) (h0 : lstE y l = 0) :
 Ev Tryz.prog 30 [ydD y, .sl 5 (l.map btD)] (.tup [.ref (tkC y l (volF y l) (roomF y) (flow0 y l)) 0, iD 0]) :=
 Ev.ofPtr (b := 9) (rest := [iD 0]) (xv_begin hs hl h0) rfl rfl (.unM (rs := (flow0 y l).map fun r => r.map iD) (by rw [List.map_map]; rfl) (.ok _ _))
section
variable {y : Yd} {l : List Bt} {vol room : List Int} {fl : List (List Int)}
theorem ev_batchOfD (n : Int) (hl : l.length ≤ 1000000) : Ev Tryz.prog 49 [.ref (tkC y l vol room fl) 0, iD n] (iD (atI l n)) := by
 have hw := ev_IndexBt l 83 [.ref [iD n] 0] (fun b => b.n == n) hl (fun b _ => ev_batchOf1 b n)
 unfold tkC
 refine ev_of_awp tysOk mixed (fn := Tryz.f49) Tryz.func49 rfl rfl rfl ?_
 conv => whnf
 repeat' (first|((with_reducible refine AltK.l ?_);(conv=>whnf);(first|(refine CallK.mk _ (hw) ?_));conv=>whnf)|fail)
 rfl
theorem ev_acceptsD {p b : Nat} (hp : p < y.pits.length) (hb : b < l.length) (hcl : ∀ p ∈ y.pits, p.cls.length ≤ 1000000) :
 Ev Tryz.prog 51 [.ref (tkC y l vol room fl) 0, iD p, iD b] (.bool (accF y l p b)) := by
 obtain ⟨q, hq⟩ := some_of_lt hp
 obtain ⟨x, hx⟩ := some_of_lt hb
 have hl1 : (y.pits.map ptD).length = y.pits.length := List.length_map _
 have hl2 : (l.map btD).length = l.length := List.length_map _
 have hc := ev_ContainsInt q.cls x.cls (hcl q (List.mem_of_getElem? hq))
 have el : accF y l p b = q.cls.any fun c => c == x.cls := by simp [accF, hq, hx, accB]
 rw [el]
 unfold tkC
 refine ev_of_awp tysOk mixed (fn := Tryz.f51) Tryz.func51 rfl rfl rfl ?_
 conv => whnf
 repeat' (first|((refine PickE.map b hx (by omega) ?_);conv=>whnf)|((refine PickE.map p hq (by omega) ?_);conv=>whnf)|((with_reducible refine Need.mk ?_ ?_);(first|omega|rfl|decide|(refine ⟨?_,?_⟩<;>simp<;>omega)|(simp;omega));conv=>whnf)|((with_reducible refine AltK.l ?_);(conv=>whnf);(first|(refine CallK.mk _ (hc) ?_));conv=>whnf)|fail)
 rfl
end
end Go.Proofs.Tryz
end

section
namespace Go.Proofs.Tryz
open Go Go.Vm
set_option maxRecDepth 20000
set_option maxHeartbeats 8000000
theorem cutP_bd {acc : Nat → Nat → Bool} {room : List Int} {M : Int} (hr : ∀ p, 0 ≤ room.getD p 0 ∧ room.getD p 0 ≤ M) {b p : Nat} {s : List Nat × Int} : s.2 ≤ (cutP acc room b s p).2 ∧ (cutP acc room b s p).2 ≤ s.2 + M := by
 have := hr p
 unfold cutP
 split
 ·omega
 split <;> omega
theorem cutR_bd {acc : Nat → Nat → Bool} {room : List Int} {M : Int} (hr : ∀ p, 0 ≤ room.getD p 0 ∧ room.getD p 0 ≤ M) {b : Nat} {s : List Nat × Int} : ∀ i : Nat, s.2 ≤ ((List.range i).foldl (cutP acc room b) s).2 ∧ ((List.range i).foldl (cutP acc room b) s).2 ≤ s.2 + i * M
 | 0 => by simp
 | i + 1 => by
  have ih := cutR_bd (acc := acc) hr (b := b) (s := s) i
  have h1 := cutP_bd (acc := acc) hr (b := b) (p := i) (s := (List.range i).foldl (cutP acc room b) s)
  have : ((i + 1 : Nat) : Int) * M = i * M + M := by rw [Int.natCast_add, Int.add_mul]; simp
  rw [range_snoc]
  omega
theorem cutGo_at {acc : Nat → Nat → Bool} {P : Nat} {vol room : List Int} {ix : Int → Int} {cut : List Int} {i : Nat} {n : Int} {need : Int} {s : List Nat × Int} (h : cut[i]? = some n) : cutGo acc P vol room ix (cut.take i) need s (cut.drop i) =
 if ix n < 0 then none else if (cut.take i).any (fun c => c == n) = true then none
 else cutGo acc P vol room ix (cut.take (i + 1)) (need + vol.getD (ix n).toNat 0) ((List.range P).foldl (cutP acc room (ix n).toNat) s) (cut.drop (i + 1)) := by
 rw [drop_of h, cutGo, take_snoc h]; rfl
theorem ev_CheckCut {y : Yd} {l : List Bt} {cut : List Int} (hs : smallP y) (h0 : lstE y l = 0) (hc : cut.length ≤ 30) :
 Ev Tryz.prog 18 [ydD y, .sl 5 (l.map btD), .sl 1 (cut.map iD)] (iD (if cutB (accF y l) y.pits.length (volF y l) (roomF y) (atI l) cut = true then 0 else 21)) := by
 have hO := ls_ok h0
 have hy := yd_ok hO.yd
 have hT := tk_ok hs hO
 have hlen := hO.len
 have hP8 := hy.pits
 have hlc : (cut.map iD).length = cut.length := List.length_map _
 have hlp : (y.pits.map ptD).length = y.pits.length := List.length_map _
 have hrb := room_bd hy
 have hvb := vol_bd hO
 have hB := ev_begin hs (show l.length ≤ 1000000 by omega) h0
 generalize volF y l = vol at *
 generalize roomF y = room at *
 generalize flow0 y l = fl at *
 have e1 := hT.hv
 have e2 := hT.hr
 have hvm : (vol.map iD).length = vol.length := List.length_map _
 have hrm : (room.map iD).length = room.length := List.length_map _
 have hBt := fun n => ev_batchOfD (y := y) (l := l) (vol := vol) (room := room) (fl := fl) n (by omega)
 have hAc := fun (p b : Nat) (hp : p < y.pits.length) (hb : b < l.length) => ev_acceptsD (y := y) (l := l) (vol := vol) (room := room) (fl := fl) hp hb hT.cl
 unfold tkC at hB hBt hAc
 have hres : ∀ r, cutGo (accF y l) y.pits.length vol room (atI l) [] 0 ([], 0) cut = r → cutB (accF y l) y.pits.length vol room (atI l) cut = match r with
  | none => false
  | some r => decide (r.2 < r.1) := fun r hr => by subst hr; rfl
 generalize cutB (accF y l) y.pits.length vol room (atI l) cut = res at *
 refine ev_of_awp tysOk mixed (fn := Tryz.f18) Tryz.func18 rfl rfl rfl ?_
 conv => whnf
 repeat' (first|((with_reducible refine Split.is_false ?_ ?_);decide;conv=>whnf)|((with_reducible refine AltK.l ?_);(conv=>whnf);(first|(refine CallK.mk _ (hB) ?_));conv=>whnf)|fail)
 refine LoopK.o3 (fun z : Nat × Int × (List Nat × Int) => z.1 ≤ cut.length ∧ cutGo (accF y l) y.pits.length vol room (atI l) [] 0 ([], 0) cut = cutGo (accF y l) y.pits.length vol room (atI l) (cut.take z.1) z.2.1 z.2.2 (cut.drop z.1) ∧ 0 ≤ z.2.1 ∧ z.2.1 ≤ z.1 * 10000000000001000 ∧ 0 ≤ z.2.2.2 ∧ z.2.2.2 ≤ z.1 * 320000000000000)
  (fun z => [(28, .d (iD z.1)), (9, .d (iD z.2.1)), (10, .d (iD z.2.2.2))]) (fun z => [(25, .map 3 4 (.int .i64) (seenD (fun n : Nat => (n : Int)) z.2.2.1))]) (fun z => cut.length - z.1) (0, 0, [], 0) ⟨by omega, rfl, by decide, by decide, by decide, by decide⟩ (by refine ⟨?_, ?_, rfl⟩<;>(repeat' (first|exact True.intro|exact rfl|(refine ⟨?_,?_⟩)|(intro h;cases h;done)|fail));done) ?_
 rintro ⟨i, need, s⟩ ⟨hi, hgo, n1, n2, n3, n4⟩
 dsimp only at hi hgo n1 n2 n3 n4 ⊢
 by_cases hil : i < cut.length
 ·obtain ⟨n, hn⟩ := some_of_lt hil
  rw [cutGo_at hn] at hgo
  have l1 : atI l n < l.length := ix_lt
  have w1 := hBt n
  have w2 : Ev Tryz.prog 50 [.sl 1 (((cut.map iD).take (i : Int).toNat).drop (0 : Int).toNat), iD n] (.bool ((cut.take i).any fun c => c == n)) := by
   have := ev_ContainsInt (cut.take i) n (by rw [List.length_take]; omega)
   rw [List.map_take] at this
   exact this
  by_cases hc0 : atI l n < 0
  ·rw [if_pos hc0] at hgo
   rw [hres _ hgo]
   clear hgo hres
   generalize atI l n = bi at *
   conv => whnf
   repeat' (first|((refine PickE.map i hn (by omega) ?_);conv=>whnf)|((with_reducible refine Split.of_true ?_);conv=>whnf)|((with_reducible refine Split.dec (fun _=>?_) (fun _=>?_))<;>conv=>whnf)|((with_reducible refine Split.mk (fun _=>?_) (fun _=>?_))<;>conv=>whnf)|((with_reducible refine Need.mk ?_ ?_);(first|omega|rfl|decide|(refine ⟨?_,?_⟩<;>simp<;>omega)|(simp;omega));conv=>whnf)|((with_reducible refine AltK.l ?_);(conv=>whnf);(first|(refine CallK.mk _ (w2) ?_)|(refine CallK.mk _ (w1) ?_));conv=>whnf)|(exfalso;first|omega|contradiction)|fail)
   all_goals first
    | rfl
    |(exfalso; omega)
  ·rw [if_neg hc0] at hgo
   cases hco : (cut.take i).any fun c => c == n with
   | true =>
    rw [hco, if_pos rfl] at hgo
    rw [hco] at w2
    rw [hres _ hgo]
    clear hgo hres
    generalize atI l n = bi at *
    conv => whnf
    repeat' (first|((refine PickE.map i hn (by omega) ?_);conv=>whnf)|((with_reducible refine Split.of_true ?_);conv=>whnf)|((with_reducible refine Split.dec (fun _=>?_) (fun _=>?_))<;>conv=>whnf)|((with_reducible refine Need.mk ?_ ?_);(first|omega|rfl|decide|(refine ⟨?_,?_⟩<;>simp<;>omega)|(simp;omega));conv=>whnf)|((with_reducible refine AltK.l ?_);(conv=>whnf);(first|(refine CallK.mk _ (w2) ?_)|(refine CallK.mk _ (w1) ?_));conv=>whnf)|(exfalso;first|omega|contradiction)|fail)
    all_goals first
     | rfl
     |(exfalso; omega)
   | false =>
    rw [hco, if_neg (by decide)] at hgo
    rw [hco] at w2
    obtain ⟨k, hk⟩ : ∃ k : Nat, atI l n = k := ⟨(atI l n).toNat, by omega⟩
    rw [hk] at w1 hgo hc0 l1
    rw [Int.toNat_natCast] at hgo
    obtain ⟨v, hv⟩ := some_of_lt (show k < vol.length by omega)
    have hvk := hvb k
    have hvd : vol.getD k 0 = v := by rw [List.getD, hv]; rfl
    rw [hvd] at hgo hvk
    clear hk
    have hbd := cutR_bd (acc := accF y l) hrb (b := k) (s := s)
    conv => whnf
    repeat' (first|((refine PickE.map k hv (by omega) ?_);conv=>whnf)|((refine PickE.map i hn (by omega) ?_);conv=>whnf)|((with_reducible first|refine Split.of_true ?_|refine Split.of_false ?_);conv=>whnf)|((with_reducible refine Split.dec (fun _=>?_) (fun _=>?_))<;>conv=>whnf)|((with_reducible refine Need.mk ?_ ?_);(first|omega|rfl|decide|(refine ⟨?_,?_⟩<;>simp<;>omega)|(simp;omega));conv=>whnf)|((with_reducible refine Wr.inr ?_ ?_);(first|omega|(simp;omega));conv=>whnf)|((with_reducible refine AltK.l ?_);(conv=>whnf);(first|(refine CallK.mk _ (w2) ?_)|(refine CallK.mk _ (w1) ?_));conv=>whnf)|(exfalso;first|omega|contradiction)|fail)
    all_goals first
     |(exfalso; omega)
     | skip
    refine LoopK.o3 (fun j : Nat => j ≤ y.pits.length)
     (fun j => [(57, .d (iD j)), (10, .d (iD ((List.range j).foldl (cutP (accF y l) room k) s).2))]) (fun j => [(25, .map 3 4 (.int .i64) (seenD (fun n : Nat => (n : Int)) ((List.range j).foldl (cutP (accF y l) room k) s).1))]) (fun j => y.pits.length - j) 0 (by omega) (by refine ⟨?_, ?_, rfl⟩<;>(repeat' (first|exact True.intro|exact rfl|(refine ⟨?_,?_⟩)|(intro h;cases h;done)|fail));done) ?_
    rintro j hj
    dsimp only at hj ⊢
    have hst := range_snoc (cutP (accF y l) room k) s j
    have hbj := hbd j
    by_cases hjl : j < y.pits.length
    ·have w3 := hAc j k hjl (by omega)
     generalize (List.range j).foldl (cutP (accF y l) room k) s = u at *
     obtain ⟨r, hr⟩ := some_of_lt (show j < room.length by omega)
     have hrj := hrb j
     have hrd : room.getD j 0 = r := by rw [List.getD, hr]; rfl
     rw [hrd] at hrj
     have hm := mget_seen (fun n : Nat => (n : Int)) j u.1
     rw [cutP, hrd] at hst
     cases hac : accF y l j k with
     | false =>
      rw [hac, if_pos rfl] at hst
      rw [hac] at w3
      conv => whnf
      repeat' (first|((with_reducible refine Split.of_false ?_);conv=>whnf)|((with_reducible refine Split.dec (fun _=>?_) (fun _=>?_))<;>conv=>whnf)|((with_reducible refine Wr.inr ?_ ?_);(first|omega|(simp;omega));conv=>whnf)|((with_reducible refine AltK.l ?_);(conv=>whnf);(first|(refine CallK.mk _ (w3) ?_));conv=>whnf)|(exfalso;first|omega|contradiction)|fail)
      refine Again.av (j + 1) (by omega) (by omega) ?_
      rw [hst]
      exact (by refine ⟨?_, ?_, rfl⟩<;>(repeat' (first|exact True.intro|exact rfl|(refine ⟨?_,?_⟩)|(intro h;cases h;done)|fail));done)
     | true =>
      rw [hac, if_neg (by decide)] at hst
      rw [hac] at w3
      conv => whnf
      repeat' (first|((with_reducible refine Split.of_true ?_);conv=>whnf)|((with_reducible refine Split.dec (fun _=>?_) (fun _=>?_))<;>conv=>whnf)|((with_reducible refine Need.mk ?_ ?_);(first|omega|rfl|decide|(refine ⟨?_,?_⟩<;>simp<;>omega)|(simp;omega));conv=>whnf)|((with_reducible refine Wr.inr ?_ ?_);(first|omega|(simp;omega));conv=>whnf)|((with_reducible refine AltK.l ?_);(conv=>whnf);(first|(refine CallK.mk _ (w3) ?_));conv=>whnf)|(exfalso;first|omega|contradiction)|fail)
      refine LookK.mk (fun v hv => ?_) (fun hv => ?_)
      ·rw [hm] at hv
       split at hv
       ·rename_i h3
        cases hv
        rw [if_pos h3] at hst
        conv => whnf
        repeat' (first|((with_reducible refine Split.of_true ?_);conv=>whnf)|(with_reducible refine Split.neg ?_)|((with_reducible refine Wr.inr ?_ ?_);(first|omega|(simp;omega));conv=>whnf)|fail)
        refine Again.av (j + 1) (by omega) (by omega) ?_
        rw [hst]
        exact (by refine ⟨?_, ?_, rfl⟩<;>(repeat' (first|exact True.intro|exact rfl|(refine ⟨?_,?_⟩)|(intro h;cases h;done)|fail));done)
       ·cases hv
      ·have h3 : ¬ u.1.any (fun n : Nat => (n : Int) == (j : Int)) = true := fun h => by rw [hm, if_pos h] at hv; cases hv
       rw [if_neg h3] at hst
       have hmp1 : mput (seenD (fun n : Nat => (n : Int)) u.1) (iD j) (.bool true) = seenD (fun n : Nat => (n : Int)) (u.1 ++ [j]) := by
        rw [mput_new hv]; simp [seenD]
       conv => whnf
       repeat' (first|((refine PickE.map j hr (by omega) ?_);conv=>whnf)|((with_reducible refine Split.of_false ?_);conv=>whnf)|(with_reducible refine Split.neg ?_)|((with_reducible refine Need.mk ?_ ?_);(first|omega|rfl|decide|(refine ⟨?_,?_⟩<;>simp<;>omega)|(simp;omega));conv=>whnf)|((with_reducible refine Wr.inr ?_ ?_);(first|omega|(simp;omega));conv=>whnf)|fail)
       refine Again.av (j + 1) (by omega) (by omega) ?_
       rw [hst]
       exact (by refine ⟨?_, ?_, rfl⟩<;>(repeat' (first|exact True.intro|exact rfl|(refine ⟨?_,?_⟩)|(intro h;cases h;done)|exact hmp1|fail));done)
    ·have hje : j = y.pits.length := by omega
     subst hje
     conv => whnf
     repeat' (first|((with_reducible refine Split.dec (fun _=>?_) (fun _=>?_))<;>conv=>whnf)|((with_reducible refine Wr.inr ?_ ?_);(first|omega|(simp;omega));conv=>whnf)|(exfalso;first|omega|contradiction)|fail)
     refine Again.av (i + 1, need + v, (List.range y.pits.length).foldl (cutP (accF y l) room k) s) ⟨by dsimp only;omega, hgo, by dsimp only;omega, by dsimp only;omega, by dsimp only;omega, by dsimp only;omega⟩ (by dsimp only;omega) (by refine ⟨?_, ?_, rfl⟩<;>(repeat' (first|exact True.intro|exact rfl|(refine ⟨?_,?_⟩)|(intro h;cases h;done)|fail));done)
 ·rw [List.drop_eq_nil_of_le (show cut.length ≤ i by omega), cutGo] at hgo
  rw [hres _ hgo]
  dsimp only
  have w4 := ev_judged (decide (s.2 < need))
  conv => whnf
  repeat' (first|((with_reducible refine Split.dec (fun _=>?_) (fun _=>?_))<;>conv=>whnf)|((with_reducible refine Need.mk ?_ ?_);(first|omega|rfl|decide|(refine ⟨?_,?_⟩<;>simp<;>omega)|(simp;omega));conv=>whnf)|((with_reducible refine AltK.l ?_);(conv=>whnf);(first|(refine CallK.mk _ (w4) ?_));conv=>whnf)|(exfalso;first|omega|contradiction)|fail)
  all_goals first
   | rfl
   |(exfalso; omega)
theorem ev_CheckCutNo {y : Yd} {l : List Bt} {cut : List Int} (hs : smallP y) (hl : l.length ≤ 1000000) (hd : y.deps.length ≤ 1000000) (h0 : lstE y l ≠ 0) : Ev Tryz.prog 18 [ydD y, .sl 5 (l.map btD), .sl 1 (cut.map iD)] (iD (lstE y l)) := by
 have hB := (xv_beginNo hs hl hd h0)
 generalize lstE y l = e at *
 refine ev_of_awp tysOk mixed (fn := Tryz.f18) Tryz.func18 rfl rfl rfl ?_
 conv => whnf
 repeat' (first|((with_reducible refine Split.nez (fun _=>?_) (fun _=>?_))<;>conv=>whnf)|((with_reducible refine AltK.r ?_);(conv=>whnf);(first|(refine CallX.mk _ _ (hB) rfl ?_));conv=>whnf)|(exfalso;first|omega|contradiction)|fail)
 all_goals first
  | rfl
  |(exfalso; omega)
end Go.Proofs.Tryz
end

section
open Go Go.Shelf
namespace Go.Proofs
def ly_LyI_ren : Shelf.Ren := ⟨fun | 189 => 53 | 125 => 86 | 257 => 85 | 128 => 112 | 129 => 113 | 294 => 103 | 295 => 104 | 296 => 105 | 297 => 106 | 298 => 107 | 299 => 108 | 216 => 109 | 300 => 110 | 301 => 111 | 328 => 126 | 329 => 127 | 330 => 128 | 331 => 129 | 332 => 130 | 215 => 100 | 343 => 133 | n => n, fun | 28 => 25 | 3 => 3 | 46 => 133 | 0 => 0 | 51 => 156 | 53 => 158 | 4 => 4 | 183 => 150 | 182 => 149 | 131 => 42 | 5 => 5 | 9 => 9 | 218 => 170 | 222 => 174 | 228 => 177 | 229 => 122 | n => n, fun | n => n⟩
theorem ly_LyI : Go.Proofs.Lays.n189 Tryz.prog ly_LyI_ren where
 mixed := by kernel_rfl
 f125 := Tryz.func86.trans (congrArg some (by kernel_rfl))
 f128 := Tryz.func112.trans (congrArg some (by kernel_rfl))
 f129 := Tryz.func113.trans (congrArg some (by kernel_rfl))
 f189 := Tryz.func53.trans (congrArg some (by kernel_rfl))
 f215 := Tryz.func100.trans (congrArg some (by kernel_rfl))
 f216 := Tryz.func109.trans (congrArg some (by kernel_rfl))
 f257 := Tryz.func85.trans (congrArg some (by kernel_rfl))
 f294 := Tryz.func103.trans (congrArg some (by kernel_rfl))
 f295 := Tryz.func104.trans (congrArg some (by kernel_rfl))
 f296 := Tryz.func105.trans (congrArg some (by kernel_rfl))
 f297 := Tryz.func106.trans (congrArg some (by kernel_rfl))
 f298 := Tryz.func107.trans (congrArg some (by kernel_rfl))
 f299 := Tryz.func108.trans (congrArg some (by kernel_rfl))
 f300 := Tryz.func110.trans (congrArg some (by kernel_rfl))
 f301 := Tryz.func111.trans (congrArg some (by kernel_rfl))
 f328 := Tryz.func126.trans (congrArg some (by kernel_rfl))
 f329 := Tryz.func127.trans (congrArg some (by kernel_rfl))
 f330 := Tryz.func128.trans (congrArg some (by kernel_rfl))
 f331 := Tryz.func129.trans (congrArg some (by kernel_rfl))
 f332 := Tryz.func130.trans (congrArg some (by kernel_rfl))
 f343 := Tryz.func133.trans (congrArg some (by kernel_rfl))
 t0 := Tryz.underlying0
 a0 := Tryz.isAgg0
 z0 := Tryz.sizeOf0
 v0 := Tryz.zeroValue0
 t3 := Tryz.underlying3
 a3 := Tryz.isAgg3
 z3 := Tryz.sizeOf3
 v3 := Tryz.zeroValue3
 t4 := Tryz.underlying4
 a4 := Tryz.isAgg4
 z4 := Tryz.sizeOf4
 v4 := Tryz.zeroValue4
 t5 := Tryz.underlying5
 a5 := Tryz.isAgg5
 z5 := Tryz.sizeOf5
 v5 := Tryz.zeroValue5
 t9 := Tryz.underlying9
 a9 := Tryz.isAgg9
 z9 := Tryz.sizeOf9
 v9 := Tryz.zeroValue9
 t28 := Tryz.underlying25
 a28 := Tryz.isAgg25
 z28 := Tryz.sizeOf25
 v28 := Tryz.zeroValue25
 t46 := Tryz.underlying133
 a46 := Tryz.isAgg133
 z46 := Tryz.sizeOf133
 v46 := Tryz.zeroValue133
 t51 := Tryz.underlying156
 a51 := Tryz.isAgg156
 z51 := Tryz.sizeOf156
 v51 := Tryz.zeroValue156
 t53 := Tryz.underlying158
 a53 := Tryz.isAgg158
 z53 := Tryz.sizeOf158
 v53 := Tryz.zeroValue158
 t131 := Tryz.underlying42
 a131 := Tryz.isAgg42
 z131 := Tryz.sizeOf42
 v131 := Tryz.zeroValue42
 t182 := Tryz.underlying149
 a182 := Tryz.isAgg149
 z182 := Tryz.sizeOf149
 v182 := Tryz.zeroValue149
 t183 := Tryz.underlying150
 a183 := Tryz.isAgg150
 z183 := Tryz.sizeOf150
 v183 := Tryz.zeroValue150
 t218 := Tryz.underlying170
 a218 := Tryz.isAgg170
 z218 := Tryz.sizeOf170
 v218 := Tryz.zeroValue170
 t222 := Tryz.underlying174
 a222 := Tryz.isAgg174
 z222 := Tryz.sizeOf174
 v222 := Tryz.zeroValue174
 t228 := Tryz.underlying177
 a228 := Tryz.isAgg177
 z228 := Tryz.sizeOf177
 v228 := Tryz.zeroValue177
 t229 := Tryz.underlying122
 a229 := Tryz.isAgg122
 z229 := Tryz.sizeOf122
 v229 := Tryz.zeroValue122
end Go.Proofs
end
