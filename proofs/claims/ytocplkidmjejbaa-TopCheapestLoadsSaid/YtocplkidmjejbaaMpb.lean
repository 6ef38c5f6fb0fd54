/- Texts DrH DrM DsB DrO DsI DsG DtA DtB DsH DtD, joined; what is not needed is left out. -/
import Derived.Test.YtocplkidmjejbaaMgI
import Derived.Test.YtocplkidmjejbaaProg
import Derived.Test.YtocplkidmjejbaaMgH
import Derived.Shelf.Lays
import Derived.Test.YtocplkidmjejbaaMpa
section
namespace Go.Proofs.Try
open Go Go.Vm
set_option maxRecDepth 20000
section
variable {acc : Nat → Nat → Bool} {P L : Nat} {vol room : List Int} {pr : Nat → Int} {fl : List (List Int)}
def yieldS (P L : Nat) (vol room : List Int) (bs ps : List Int) : Int := sumN L (fun b => bs.getD b 0 * vol.getD b 0) - sumN P fun p => ps.getD p 0 * room.getD p 0
def costS (P L : Nat) (pr : Nat → Int) (fl : List (List Int)) : Int := sumN L fun b => sumN P fun p => cellZ fl b p * pr p
theorem yield_eq (h : FlOk acc P L vol room fl) (bs ps : List Int) : yieldS P L vol room bs ps = sumN L (fun b => sumN P fun p => cellZ fl b p * (bs.getD b 0 - ps.getD p 0)) + sumN L (fun b => bs.getD b 0 * leftF vol fl b) - sumN P fun p => ps.getD p 0 * freeF room fl p := by
 have e1 : sumN L (fun b => bs.getD b 0 * vol.getD b 0) = sumN L (fun b => sumN P fun p => cellZ fl b p * bs.getD b 0) + sumN L (fun b => bs.getD b 0 * leftF vol fl b) := by
  rw [← sumN_add]
  refine sumN_congr fun b hb => ?_
  rw [sumN_mul, left_sum h.dim hb, Int.mul_sub, Int.mul_comm (sumN P (cellZ fl b))]
  omega
 have e2 : sumN P (fun p => ps.getD p 0 * room.getD p 0) = sumN L (fun b => sumN P fun p => cellZ fl b p * ps.getD p 0) + sumN P (fun p => ps.getD p 0 * freeF room fl p) := by
  rw [sumN_swap, ← sumN_add]
  refine sumN_congr fun p _ => ?_
  rw [sumN_mul, free_sum h.dim, Int.mul_sub, Int.mul_comm (sumN L fun b => cellZ fl b p)]
  omega
 have e3 : sumN L (fun b => sumN P fun p => cellZ fl b p * (bs.getD b 0 - ps.getD p 0)) = sumN L (fun b => sumN P fun p => cellZ fl b p * bs.getD b 0) - sumN L (fun b => sumN P fun p => cellZ fl b p * ps.getD p 0) := by
  rw [← sumN_sub]
  refine sumN_congr fun b _ => ?_
  rw [← sumN_sub]
  exact sumN_congr fun p _ => Int.mul_sub _ _ _
 unfold yieldS
 rw [e1, e2, e3]; omega
theorem yield_weak (h : FlOk acc P L vol room fl) (hd : ∀ b, b < L → leftF vol fl b = 0) (bs ps : List Int) (hps : ∀ p, p < P → 0 ≤ ps.getD p 0) (hc : ∀ b, b < L → ∀ p, p < P → acc p b = true → bs.getD b 0 ≤ pr p + ps.getD p 0) : yieldS P L vol room bs ps ≤ costS P L pr fl := by
 rw [yield_eq h]
 have e1 : sumN L (fun b => bs.getD b 0 * leftF vol fl b) = 0 := (sumN_congr fun b hb => by rw [hd b hb, Int.mul_zero]).trans sumN_zero
 have e2 : 0 ≤ sumN P fun p => ps.getD p 0 * freeF room fl p := sumN_nn fun p hp => Int.mul_nonneg (hps p hp) (h.fr p hp)
 have e3 : sumN L (fun b => sumN P fun p => cellZ fl b p * (bs.getD b 0 - ps.getD p 0)) ≤ costS P L pr fl := sumN_le fun b hb => sumN_le fun p hp => by
  have h1 := h.nn b p
  by_cases h0 : 0 < cellZ fl b p
  ·have := hc b hb p hp (h.ac b p h0)
   exact Int.mul_le_mul_of_nonneg_left (by omega) h1
  ·have : cellZ fl b p = 0 := by omega
   rw [this]; simp
 omega
theorem yield_strong (h : FlOk acc P L vol room fl) (hd : ∀ b, b < L → leftF vol fl b = 0) {t : Tf} (ht : TfI acc P L room pr fl t) (hps : ∀ p, p < P → 0 ≤ t.ps.getD p 0) (hc : ∀ b, b < L → ∀ p, p < P → TF acc pr fl t b p) : yieldS P L vol room t.bs t.ps = costS P L pr fl := by
 rw [yield_eq h]
 have e1 : sumN L (fun b => t.bs.getD b 0 * leftF vol fl b) = 0 := (sumN_congr fun b hb => by rw [hd b hb, Int.mul_zero]).trans sumN_zero
 have e2 : sumN P (fun p => t.ps.getD p 0 * freeF room fl p) = 0 := (sumN_congr fun p hp => by
  have h1 := h.fr p hp
  by_cases h0 : 0 < freeF room fl p
  ·have := ht.f p hp h0
   have := hps p hp
   rw [show t.ps.getD p 0 = 0 by omega, Int.zero_mul]
  ·rw [show freeF room fl p = 0 by omega, Int.mul_zero]).trans sumN_zero
 have e3 : sumN L (fun b => sumN P fun p => cellZ fl b p * (t.bs.getD b 0 - t.ps.getD p 0)) = costS P L pr fl := sumN_congr fun b hb => sumN_congr fun p hp => by
  have h1 := h.nn b p
  by_cases h0 : 0 < cellZ fl b p
  ·obtain ⟨a1, a2⟩ := hc b hb p hp (h.ac b p h0)
   have a2 := a2 h0
   rw [show t.bs.getD b 0 - t.ps.getD p 0 = pr p by omega]
  ·rw [show cellZ fl b p = 0 by omega, Int.zero_mul, Int.zero_mul]
 rw [e1, e2, e3]; omega
end
end Go.Proofs.Try
end

section
namespace Go.Proofs.Try
open Go Go.Vm
set_option maxRecDepth 20000
theorem atI_ok {l : List Bt} : IxOk (atI l) l.length := ⟨fun n => ix_lt, fun n m h0 he => by
 obtain ⟨i, r, h1, h2, h3⟩ := ix_at (p := fun b : Bt => b.n == n) (l := l) (show ¬ atI l n < 0 by omega)
 obtain ⟨j, s, k1, k2, k3⟩ := ix_at (p := fun b : Bt => b.n == m) (l := l) (show ¬ atI l m < 0 by omega)
 have e1 : atI l n = i := h1
 have e2 : atI l m = j := k1
 have : i = j := by omega
 subst this
 rw [h2] at k2
 cases k2
 exact (eq_of_beq h3).symm.trans (eq_of_beq k3)⟩
theorem pitI_lt {y : Yd} (s : ByteArray) : pitI y s < y.pits.length := ix_lt
theorem atI_self {y : Yd} {l : List Bt} (h : LsOk y l) {j : Nat} (hj : j < l.length) : atI l (numF l j) = j := by
 obtain ⟨x, hx⟩ := some_of_lt hj
 have en : numF l j = x.n := by rw [numF, hx]
 have e : l.findIdx? (fun b => b.n == x.n) = some j := by
  obtain ⟨hj', he⟩ := List.getElem?_eq_some_iff.1 hx
  rw [List.findIdx?_eq_some_iff_getElem]
  refine ⟨hj', by rw [he]; simp, fun i hi => ?_⟩
  have := List.pairwise_iff_getElem.1 h.dist i j (by omega) hj' hi
  rw [he] at this
  simpa using this
 rw [en, atI, ixI, e]
section
variable {acc : Nat → Nat → Bool} {P L : Nat} {vol room : List Int} {pr : Nat → Int} {ib : Int → Int} {ip : ByteArray → Int}
theorem costS_add {fl : List (List Int)} (hd : Dim P L fl) {b p : Nat} {a : Int} (hb : b < L) (hp : p < P) : costS P L pr (addF fl b p a) = costS P L pr fl + a * pr p := by
 unfold costS
 have e : ∀ b', sumN P (fun q => cellZ (addF fl b p a) b' q * pr q) = sumN P (fun q => cellZ fl b' q * pr q) + if b' = b then a * pr p else 0 := fun b' => by
  have : (fun q => cellZ (addF fl b p a) b' q * pr q) = fun q => cellZ fl b' q * pr q + if q = p then (if b' = b then a * pr p else 0) else 0 := by
   funext q
   rw [cell_add hd hb hp, Int.add_mul]
   congr 1
   by_cases e1 : q = p
   ·subst e1
    by_cases e2 : b' = b
    ·subst e2; simp
    ·rw [if_neg (fun h => e2 h.1.symm), if_pos rfl, if_neg e2]; simp
   ·rw [if_neg (fun h => e1 h.2.symm), if_neg e1]; simp
  rw [this, sumN_add, sumN_hit, if_pos hp]
 simp only [e]
 rw [sumN_add, sumN_hit, if_pos hb]
def flA (ib : Int → Int) (ip : ByteArray → Int) (x : List Al) (fl : List (List Int)) : List (List Int) := x.foldl (fun f a => addF f (ib a.n).toNat (ip a.pit).toNat a.vol) fl
def costL (ip : ByteArray → Int) (pr : Nat → Int) (x : List Al) : Int := (x.map fun a => a.vol * pr (ip a.pit).toNat).sum
theorem flA_ok (hib : ∀ n, ib n < L) (hip : ∀ s, ip s < P) : ∀ {x : List Al} {fl : List (List Int)}, (∀ a ∈ x, Vld acc ib ip a) → Dim P L fl → (∀ b p, 0 ≤ cellZ fl b p) → (∀ b p, 0 < cellZ fl b p → acc p b = true) →
 Dim P L (flA ib ip x fl) ∧ (∀ b p, 0 ≤ cellZ (flA ib ip x fl) b p) ∧ (∀ b p, 0 < cellZ (flA ib ip x fl) b p → acc p b = true) ∧
  (∀ b, leftF vol (flA ib ip x fl) b = leftF vol fl b - sumA (fun a => ib a.n == (b : Int)) x) ∧ (∀ p, freeF room (flA ib ip x fl) p = freeF room fl p - sumA (fun a => ip a.pit == (p : Int)) x) ∧
  costS P L pr (flA ib ip x fl) = costS P L pr fl + costL ip pr x
 | [], fl, _, hd, hn, ha => ⟨hd, hn, ha, fun b => by rw [sumA_nil]; simp [flA], fun p => by rw [sumA_nil]; simp [flA], by simp [flA, costL]⟩
 | a :: r, fl, hx, hd, hn, ha => by
  have hv := hx a (by simp)
  have k1 := hv.b
  have k2 := hv.p
  have k3 := hv.v
  have hb : (ib a.n).toNat < L := by have := hib a.n; omega
  have hp : (ip a.pit).toNat < P := by have := hip a.pit; omega
  obtain ⟨i1, i2, i3, i4, i5, i6⟩ := flA_ok hib hip (x := r) (fl := addF fl (ib a.n).toNat (ip a.pit).toNat a.vol) (fun c hc => hx c (List.mem_cons_of_mem _ hc)) (hd.add _ _ _) (fun b p => by
   rw [cell_add hd hb hp]; have := hn b p; split <;> omega) (fun b p h => by
   rw [cell_add hd hb hp] at h
   by_cases e : (ib a.n).toNat = b ∧ (ip a.pit).toNat = p
   ·rw [← e.1, ← e.2]; exact hv.ac
   ·rw [if_neg e] at h; exact ha b p (by omega))
  refine ⟨i1, i2, i3, fun b => ?_, fun p => ?_, ?_⟩
  ·have := i4 b
   rw [left_add hd hb hp] at this
   rw [sumA_cons]
   show leftF vol (flA ib ip r _) b = _
   rw [this]
   by_cases e : (ib a.n).toNat = b
   ·rw [if_pos e, if_pos (by simp; omega)]; omega
   ·rw [if_neg e, if_neg (by simp; omega)]; omega
  ·have := i5 p
   rw [free_add hd hb hp] at this
   rw [sumA_cons]
   show freeF room (flA ib ip r _) p = _
   rw [this]
   by_cases e : (ip a.pit).toNat = p
   ·rw [if_pos e, if_pos (by simp; omega)]; omega
   ·rw [if_neg e, if_neg (by simp; omega)]; omega
  ·show costS P L pr (flA ib ip r _) = _
   rw [i6, costS_add hd hb hp]
   simp only [costL, List.map_cons, List.sum_cons]
   omega
end
theorem chr_flow {y : Yd} {l : List Bt} {x : List Al} (hc : Chr (accF y l) (atI l) (pitI y) y.pits.length l.length (fun b => (volF y l).getD b 0) (fun p => (roomF y).getD p 0) [] x) :
 ∃ fl, FlOk (accF y l) y.pits.length l.length (volF y l) (roomF y) fl ∧ (∀ b, b < l.length → leftF (volF y l) fl b = 0) ∧ costS y.pits.length l.length (priceF y) fl = costF y x := by
 obtain ⟨h1, h2, h3, h4, h5, h6⟩ := flA_ok (acc := accF y l) (P := y.pits.length) (L := l.length) (vol := volF y l) (room := roomF y) (pr := priceF y) atI_ok.lt (fun s => pitI_lt s) (x := x) (fl := flow0 y l) hc.ok dim_flow0 (fun b p => by rw [cell_flow0]; exact Int.le_refl _) (fun b p h => by rw [cell_flow0] at h; exact absurd h (by decide))
 have h7 : ∀ b, b < l.length → leftF (volF y l) (flA (atI l) (pitI y) x (flow0 y l)) b = 0 := fun b hb => by
  rw [h4, left_flow0 hb, hc.sb b hb]; omega
 refine ⟨_, ⟨h1, h2, h3, fun b hb => by rw [h7 b hb]; exact Int.le_refl _, fun p hp => ?_⟩, h7, ?_⟩
 ·have := hc.sp p hp
  rw [h5, free_flow0]; omega
 ·rw [h6]
  have : costS y.pits.length l.length (priceF y) (flow0 y l) = 0 := (sumN_congr fun b _ => (sumN_congr fun p _ => by rw [cell_flow0, Int.zero_mul]).trans sumN_zero).trans sumN_zero
  rw [this, Int.zero_add]; rfl
/-! What flows is accepted, in order. -/
def lexL (a b : Int × Int) : Prop := a.1 < b.1 ∨ a.1 = b.1 ∧ a.2 < b.2
def prL (y : Yd) (l : List Bt) (a : Al) : Int × Int := (atI l a.n, pitI y a.pit)
section
variable {y : Yd} {l : List Bt} {fl : List (List Int)}
theorem mem_rowA {a : Al} {b : Nat} : ∀ {k : Nat}, a ∈ rowA y l fl b k → ∃ p, p < k ∧ 0 < cellZ fl b p ∧ a = ⟨numF l b, nameF y p, cellZ fl b p⟩ := by
 intro k h
 rw [rowA, List.mem_filterMap] at h
 obtain ⟨p, hp, h⟩ := h
 rw [cellA] at h
 split at h
 ·rename_i hc
  cases h
  exact ⟨p, List.mem_range.1 hp, hc, rfl⟩
 ·cases h
theorem prL_of (h : LsOk y l) {b p : Nat} {v : Int} (hb : b < l.length) (hp : p < y.pits.length) : prL y l ⟨numF l b, nameF y p, v⟩ = ((b : Int), (p : Int)) := by
 rw [prL]; dsimp only
 rw [atI_self h hb, pitI_name h.yd hp]
theorem row_lex (h : LsOk y l) {b : Nat} (hb : b < l.length) : ∀ k, k ≤ y.pits.length → (rowA y l fl b k).Pairwise fun a c => lexL (prL y l a) (prL y l c)
 | 0, _ => by simp [rowA]
 | k + 1, hk => by
  rw [rowA_succ, List.pairwise_append]
  refine ⟨row_lex h hb k (by omega), by split <;> simp, fun a ha c hc => ?_⟩
  obtain ⟨p, hp, -, rfl⟩ := mem_rowA ha
  split at hc
  ·rw [List.mem_singleton.1 hc, prL_of h hb (by omega), prL_of h hb (by omega)]
   exact .inr ⟨rfl, by dsimp only; omega⟩
  ·cases hc
theorem all_lex (h : LsOk y l) : ∀ i, i ≤ l.length → (allF y l fl i).Pairwise fun a c => lexL (prL y l a) (prL y l c)
 | 0, _ => by simp [allF]
 | i + 1, hi => by
  rw [allF_succ, List.pairwise_append]
  refine ⟨all_lex h i (by omega), row_lex h (by omega) _ (Nat.le_refl _), fun a ha c hc => ?_⟩
  obtain ⟨b, p, hb, hp, -, rfl⟩ := mem_allF ha
  obtain ⟨q, hq, -, rfl⟩ := mem_rowA hc
  rw [prL_of h (by omega) hp, prL_of h (by omega) hq]
  exact .inl (by dsimp only; omega)
theorem sumA_app {q : Al → Bool} {x z : List Al} : sumA q (x ++ z) = sumA q x + sumA q z := by simp [sumA]
theorem row_sb (h : LsOk y l) (hn : ∀ b p, 0 ≤ cellZ fl b p) {i b : Nat} (hi : i < l.length) : ∀ k, k ≤ y.pits.length → sumA (fun a => atI l a.n == (b : Int)) (rowA y l fl i k) = if i = b then sumN k (cellZ fl i) else 0
 | 0, _ => by simp [rowA, sumA, sumN]
 | k + 1, hk => by
  rw [rowA_succ, sumA_app, row_sb h hn hi k (by omega), sumN]
  have := hn i k
  by_cases hc : 0 < cellZ fl i k
  ·rw [if_pos hc, sumA_cons, sumA_nil]
   dsimp only
   rw [atI_self h hi]
   by_cases e : i = b
   ·subst e; simp
   ·rw [if_neg e, if_neg e, if_neg (by simp; omega)]; rfl
  ·rw [if_neg hc, sumA_nil, show cellZ fl i k = 0 by omega]
   split <;> simp
theorem row_sp (h : LsOk y l) (hn : ∀ b p, 0 ≤ cellZ fl b p) {i p : Nat} : ∀ k, k ≤ y.pits.length → sumA (fun a => pitI y a.pit == (p : Int)) (rowA y l fl i k) = if p < k then cellZ fl i p else 0
 | 0, _ => by simp [rowA, sumA]
 | k + 1, hk => by
  rw [rowA_succ, sumA_app, row_sp h hn k (by omega)]
  have := hn i k
  by_cases hc : 0 < cellZ fl i k
  ·rw [if_pos hc, sumA_cons, sumA_nil]
   dsimp only
   rw [pitI_name h.yd (show k < y.pits.length by omega)]
   by_cases e : k = p
   ·subst e; simp
   ·rw [if_neg (show ¬ ((k : Int) == (p : Int)) = true by simp; omega)]
    by_cases e2 : p < k
    ·rw [if_pos e2, if_pos (by omega)]; omega
    ·rw [if_neg e2, if_neg (by omega)]; rfl
  ·rw [if_neg hc, sumA_nil]
   by_cases e : k = p
   ·subst e; rw [if_neg (by omega), if_pos (by omega)]; omega
   ·by_cases e2 : p < k
    ·rw [if_pos e2, if_pos (by omega)]; omega
    ·rw [if_neg e2, if_neg (by omega)]; rfl
theorem all_sb (h : LsOk y l) (hn : ∀ b p, 0 ≤ cellZ fl b p) {b : Nat} : ∀ i, i ≤ l.length → sumA (fun a => atI l a.n == (b : Int)) (allF y l fl i) = if b < i then sumN y.pits.length (cellZ fl b) else 0
 | 0, _ => by simp [allF, sumA]
 | i + 1, hi => by
  rw [allF_succ, sumA_app, all_sb h hn i (by omega), row_sb h hn (by omega) _ (Nat.le_refl _)]
  by_cases e : i = b
  ·subst e; rw [if_neg (by omega), if_pos rfl, if_pos (by omega)]; omega
  ·by_cases e2 : b < i
   ·rw [if_pos e2, if_neg e, if_pos (by omega)]; omega
   ·rw [if_neg e2, if_neg e, if_neg (by omega)]; rfl
theorem all_sp (h : LsOk y l) (hn : ∀ b p, 0 ≤ cellZ fl b p) {p : Nat} (hp : p < y.pits.length) : ∀ i, sumA (fun a => pitI y a.pit == (p : Int)) (allF y l fl i) = sumN i fun b => cellZ fl b p
 | 0 => by simp [allF, sumA, sumN]
 | i + 1 => by rw [allF_succ, sumA_app, all_sp h hn hp i, row_sp h hn _ (Nat.le_refl _), if_pos hp, sumN]
theorem all_chr (h : LsOk y l) (hf : FlOk (accF y l) y.pits.length l.length (volF y l) (roomF y) fl) (hd : doneF l.length (volF y l) fl = true) :
 Chr (accF y l) (atI l) (pitI y) y.pits.length l.length (fun b => (volF y l).getD b 0) (fun p => (roomF y).getD p 0) [] (allF y l fl l.length) := by
 refine ⟨fun a ha => ?_, ?_, fun _ _ => by simp, fun b hb => ?_, fun p hp => ?_⟩
 ·obtain ⟨b, p, hb, hp, hc, rfl⟩ := mem_allF ha
  refine ⟨?_, ?_, hc, ?_⟩
  all_goals
   dsimp only
  ·rw [atI_self h hb]; omega
  ·rw [pitI_name h.yd hp]; omega
  ·rw [atI_self h hb, pitI_name h.yd hp]; exact hf.ac b p hc
 ·have := all_lex (fl := fl) h l.length (Nat.le_refl _)
  rw [List.Nodup, List.pairwise_map]
  refine this.imp fun {a c} hl he => ?_
  have e1 : prL y l a = prL y l c := he
  rw [e1] at hl
  rcases hl with h1 | h1
  ·exact absurd h1 (Int.lt_irrefl _)
  ·exact absurd h1.2 (Int.lt_irrefl _)
 ·rw [all_sb h hf.nn _ (Nat.le_refl _), if_pos hb]
  have h1 := hf.lf b hb
  have h2 := done_iff.1 hd b hb
  rw [left_sum hf.dim hb] at h1 h2
  omega
 ·rw [all_sp h hf.nn hp]
  have h1 := hf.fr p hp
  rw [free_sum hf.dim] at h1
  omega
end
end Go.Proofs.Try
end

section
namespace Go.Proofs.Try
open Go Go.Vm
set_option maxRecDepth 20000
set_option maxHeartbeats 8000000
def tkC (y : Yd) (l : List Bt) (vol room : List Int) (fl : List (List Int)) : List D :=
 [.sl 6 (y.pits.map ptD), .sl 3 (y.bulk.map bkD), .sl 3 (y.deps.map dpD), .sl 1 (y.carry.map iD), .sl 5 (l.map btD), .sl 1 (vol.map iD), .sl 1 (room.map iD), .sl 1 ((fl.map fun r => r.map iD).map (.sl 1))]
theorem ev_begin {y : Yd} {l : List Bt} (hs : smallP y) (hl : l.length ≤ 1000000) (h0 : lstE y l = 0) :
 Ev Try.prog 41 [ydD y, .sl 5 (l.map btD)] (.tup [.ref (tkC y l (volF y l) (roomF y) (flow0 y l)) 0, iD 0]) :=
 Ev.ofPtr (b := 9) (rest := [iD 0]) (xv_begin hs hl h0) rfl rfl (.unM (rs := (flow0 y l).map fun r => r.map iD) (by rw [List.map_map]; rfl) (.ok _ _))
section
variable {y : Yd} {l : List Bt} {vol room : List Int} {fl : List (List Int)}
theorem ev_batchOfD (n : Int) (hl : l.length ≤ 1000000) : Ev Try.prog 61 [.ref (tkC y l vol room fl) 0, iD n] (iD (atI l n)) := by
 have hw := ev_IndexBt l 100 [.ref [iD n] 0] (fun b => b.n == n) hl (fun b _ => ev_batchOf1 b n)
 unfold tkC
 refine ev_of_awp tysOk mixed (fn := Try.f61) Try.func61 rfl rfl rfl ?_
 conv => whnf
 repeat' (first|((with_reducible refine AltK.l ?_);(conv=>whnf);(first|(refine CallK.mk _ (hw) ?_));conv=>whnf)|fail)
 rfl
theorem ev_acceptsD {p b : Nat} (hp : p < y.pits.length) (hb : b < l.length) (hcl : ∀ p ∈ y.pits, p.cls.length ≤ 1000000) :
 Ev Try.prog 63 [.ref (tkC y l vol room fl) 0, iD p, iD b] (.bool (accF y l p b)) := by
 obtain ⟨q, hq⟩ := some_of_lt hp
 obtain ⟨x, hx⟩ := some_of_lt hb
 have hl1 : (y.pits.map ptD).length = y.pits.length := List.length_map _
 have hl2 : (l.map btD).length = l.length := List.length_map _
 have hc := ev_ContainsInt q.cls x.cls (hcl q (List.mem_of_getElem? hq))
 have el : accF y l p b = q.cls.any fun c => c == x.cls := by simp [accF, hq, hx, accB]
 rw [el]
 unfold tkC
 refine ev_of_awp tysOk mixed (fn := Try.f63) Try.func63 rfl rfl rfl ?_
 conv => whnf
 repeat' (first|((refine PickE.map b hx (by omega) ?_);conv=>whnf)|((refine PickE.map p hq (by omega) ?_);conv=>whnf)|((with_reducible refine Need.mk ?_ ?_);(first|omega|rfl|decide|(refine ⟨?_,?_⟩<;>simp<;>omega)|(simp;omega));conv=>whnf)|((with_reducible refine AltK.l ?_);(conv=>whnf);(first|(refine CallK.mk _ (hc) ?_));conv=>whnf)|fail)
 rfl
end
theorem ev_IndexIf (l : List Int) (f : Nat) (p : Int → Bool) (hn : l.length ≤ 1000000) (hf : ∀ g ∈ l, Ev Try.prog f [iD g] (.bool (p g))) :
 Ev Try.prog 109 [.sl 1 (l.map iD), .fn f []] (iD (ixI p l)) := by
 have hlen : (l.map iD).length = l.length := List.length_map _
 refine ev_of_awp tysOk mixed (fn := Try.f109) Try.func109 rfl rfl rfl ?_
 conv => whnf
 skip
 refine LoopK.o2 (fun i : Nat => i ≤ l.length ∧ ∀ g ∈ l.take i, p g = false) (fun i => [(8, .d (.int .i64 i))]) (fun _ => []) (fun i => l.length - i) 0 (by simp) (by refine ⟨?_, ?_, rfl⟩<;>(repeat' (first|exact True.intro|exact rfl|(refine ⟨?_,?_⟩)|fail));done) ?_
 rintro i ⟨hi, hp⟩
 by_cases hil : i < l.length
 ·obtain ⟨g, hg⟩ := some_of_lt hil
  have hc := hf g (List.mem_of_getElem? hg)
  cases hpg : p g with
  | true =>
   rw [hpg] at hc
   conv => whnf
   repeat' (first|((refine PickE.map i hg (by omega) ?_);conv=>whnf)|((with_reducible refine Split.of_true ?_);conv=>whnf)|((with_reducible refine Split.dec (fun _=>?_) (fun _=>?_))<;>conv=>whnf)|((with_reducible refine Need.mk ?_ ?_);(first|omega|rfl|decide|(refine ⟨?_,?_⟩<;>simp<;>omega)|(simp;omega));conv=>whnf)|((with_reducible refine AltK.l ?_);(conv=>whnf);(first|(refine CallK.mk _ (hc) ?_));conv=>whnf)|(exfalso;first|omega|contradiction)|fail)
   have e : l.findIdx? p = some i := by
    rw [List.findIdx?_eq_some_iff_getElem]
    refine ⟨by omega, by rw [(List.getElem?_eq_some_iff.1 hg).2]; exact hpg, fun j hj => ?_⟩
    have := hp l[j] (List.mem_take_iff_getElem.2 ⟨j, by omega, rfl⟩)
    rw [this]; decide
   rw [ixI, e]; rfl
  | false =>
   rw [hpg] at hc
   conv => whnf
   repeat' (first|((refine PickE.map i hg (by omega) ?_);conv=>whnf)|((with_reducible refine Split.of_false ?_);conv=>whnf)|((with_reducible refine Split.dec (fun _=>?_) (fun _=>?_))<;>conv=>whnf)|((with_reducible refine Need.mk ?_ ?_);(first|omega|rfl|decide|(refine ⟨?_,?_⟩<;>simp<;>omega)|(simp;omega));conv=>whnf)|((with_reducible refine Wr.inr ?_ ?_);(first|omega|(simp;omega));conv=>whnf)|((with_reducible refine AltK.l ?_);(conv=>whnf);(first|(refine CallK.mk _ (hc) ?_));conv=>whnf)|(exfalso;first|omega|contradiction)|fail)
   refine Again.au (i + 1) ⟨by omega, fun z hz => ?_⟩ (by omega) (by refine ⟨?_, ?_, rfl⟩<;>(repeat' (first|exact True.intro|exact rfl|(refine ⟨?_,?_⟩)|fail));done)
   rw [take_snoc hg] at hz
   rcases List.mem_append.1 hz with hz | hz
   ·exact hp z hz
   ·rw [List.mem_singleton.1 hz]; exact hpg
 ·have e : l.findIdx? p = none := by
   rw [List.findIdx?_eq_none_iff]
   intro z hz
   rw [← List.take_of_length_le (show l.length ≤ i by omega)] at hz
   exact hp z hz
  rw [ixI, e]
  conv => whnf
  repeat' (first|((with_reducible refine Split.dec (fun _=>?_) (fun _=>?_))<;>conv=>whnf)|((with_reducible refine Need.mk ?_ ?_);(first|omega|rfl|decide|(refine ⟨?_,?_⟩<;>simp<;>omega)|(simp;omega));conv=>whnf)|(exfalso;first|omega|contradiction)|fail)
  rfl
theorem ev_ContainsIf (l : List Int) (f : Nat) (p : Int → Bool) (hn : l.length ≤ 1000000) (hf : ∀ g ∈ l, Ev Try.prog f [iD g] (.bool (p g))) :
 Ev Try.prog 92 [.sl 1 (l.map iD), .fn f []] (.bool (l.any p)) := by
 have h := ev_IndexIf l f p hn hf
 rw [any_ix]
 generalize ixI p l = i at *
 refine ev_of_awp tysOk mixed (fn := Try.f92) Try.func92 rfl rfl rfl ?_
 conv => whnf
 repeat' (first|((with_reducible refine AltK.l ?_);(conv=>whnf);(first|(refine CallK.mk _ (h) ?_));conv=>whnf)|fail)
 simp only [retOf, D.bool.injEq, decide_eq_decide]; omega
theorem ev_assigned1 (v : Int) : Ev Try.prog 93 [iD v] (.bool (v != 0)) := by
 refine ev_of_awp tysOk mixed (fn := Try.f93) Try.func93 rfl rfl rfl ?_
 conv => whnf
 skip
 rfl
def prD (k : Int × Int) : D := .agg [iD k.1, iD k.2]
theorem asgGo_at {acc : Nat → Nat → Bool} {ib : Int → Int} {ip : ByteArray → Int} {v r : List Int} {sn : List (Int × Int)} {x : List Al} {i : Nat} {a : Al} (h : x[i]? = some a) : asgGo acc ib ip v r sn (x.drop i) =
 if ib a.n < 0 ∨ ip a.pit < 0 ∨ a.vol ≤ 0 then none
 else if acc (ip a.pit).toNat (ib a.n).toNat = false then none
 else if (ib a.n, ip a.pit) ∈ sn then none
 else if v.getD (ib a.n).toNat 0 < a.vol ∨ r.getD (ip a.pit).toNat 0 < a.vol then none
 else asgGo acc ib ip (v.set (ib a.n).toNat (v.getD (ib a.n).toNat 0 - a.vol)) (r.set (ip a.pit).toNat (r.getD (ip a.pit).toNat 0 - a.vol)) (sn ++ [(ib a.n, ip a.pit)]) (x.drop (i + 1)) := by
 rw [drop_of h, asgGo]
theorem ev_assigned {y : Yd} {l : List Bt} {vol room : List Int} {fl : List (List Int)} (h : TkOk y l vol room fl) (x : List Al) (hn : x.length ≤ 1000) :
 Ev Try.prog 46 [.ref (tkC y l vol room fl) 0, .sl 3 (x.map alD)] (.bool (asgB (accF y l) (atI l) (pitI y) vol room x)) := by
 have e1 := h.hv
 have e2 := h.hr
 have e3 := h.hL
 have e4 := h.hP
 have hlx : (x.map alD).length = x.length := List.length_map _
 have c1 : EvX Try.prog 72 [.d (.sl 1 (vol.map iD))] [] (.own 17 1 (vol.map iD).length) [(17, .row 3 1 (vol.map iD) false)] := EvX.new1 (xs := [.sl 1 (vol.map iD)]) (xv_clonedI vol (by omega)) 17
 have c2 : EvX Try.prog 72 [.d (.sl 1 (room.map iD))] [] (.own 22 1 (room.map iD).length) [(22, .row 3 1 (room.map iD) false)] := EvX.new1 (xs := [.sl 1 (room.map iD)]) (xv_clonedI room (by omega)) 22
 have hBt := fun n => ev_batchOfD (y := y) (l := l) (vol := vol) (room := room) (fl := fl) n (by omega)
 have hAc := fun (p b : Nat) (hp : p < y.pits.length) (hb : b < l.length) => ev_acceptsD (y := y) (l := l) (vol := vol) (room := room) (fl := fl) hp hb h.cl
 unfold tkC at hBt hAc ⊢
 have hres : ∀ r, asgGo (accF y l) (atI l) (pitI y) vol room [] x = r → asgB (accF y l) (atI l) (pitI y) vol room x = match r with
  | none => false
  | some v => !v.any fun z => z != 0 := fun r hr => by subst hr; rfl
 generalize asgB (accF y l) (atI l) (pitI y) vol room x = res at *
 refine ev_of_awp tysOk mixed (fn := Try.f46) Try.func46 rfl rfl rfl ?_
 conv => whnf
 repeat' (first|((with_reducible refine AltK.r ?_);(conv=>whnf);(first|(refine CallX.mk _ _ (c1) rfl ?_)|(refine CallX.mk _ _ (c2) rfl ?_));conv=>whnf)|fail)
 refine LoopK.o3 (fun z : Nat × List Int × List Int × List (Int × Int) => z.1 ≤ x.length ∧ asgGo (accF y l) (atI l) (pitI y) vol room [] x = asgGo (accF y l) (atI l) (pitI y) z.2.1 z.2.2.1 z.2.2.2 (x.drop z.1) ∧ z.2.1.length = l.length ∧ z.2.2.1.length = y.pits.length ∧ z.2.2.2.length = z.1 ∧ (∀ q ∈ z.2.1, 0 ≤ q ∧ q ≤ 100000000000000000) ∧ (∀ q ∈ z.2.2.1, 0 ≤ q ∧ q ≤ 100000000000000000))
  (fun z => [(25, .d (iD z.1)), (7, .own 200 2 (z.2.2.2.map prD).length)]) (fun z => [(17, .row 3 1 (z.2.1.map iD) false), (22, .row 3 1 (z.2.2.1.map iD) false), (200, .row 141 2 (z.2.2.2.map prD) false)]) (fun z => x.length - z.1)
  (0, vol, room, []) ⟨by omega, rfl, e1, e2, rfl, h.vb, h.rb⟩ (by refine ⟨?_, ?_, rfl⟩<;>(repeat' (first|exact True.intro|exact rfl|(refine ⟨?_,?_⟩)|(intro h;cases h;done)|fail));done) ?_
 rintro ⟨i, v, r, sn⟩ ⟨hi, hgo, hvl, hrl, hsl, hvb, hrb⟩
 dsimp only at hi hgo hvl hrl hsl hvb hrb ⊢
 have hvm : (v.map iD).length = v.length := List.length_map _
 have hrm : (r.map iD).length = r.length := List.length_map _
 have hsm : (sn.map prD).length = sn.length := List.length_map _
 by_cases hil : i < x.length
 ·obtain ⟨a, ha⟩ := some_of_lt hil
  have hxD : (x.map alD)[(i : Int).toNat]? = some (D.agg [iD a.n, .str a.pit, iD a.vol]) := by rw [Int.toNat_natCast, List.getElem?_map, ha]; rfl
  have w1 := hBt a.n
  have w2 := ev_pitOf y a.pit (by omega)
  rw [asgGo_at ha] at hgo
  have l1 : atI l a.n < l.length := ix_lt
  have l2 : pitI y a.pit < y.pits.length := ix_lt
  by_cases hc0 : atI l a.n < 0 ∨ pitI y a.pit < 0 ∨ a.vol ≤ 0
  ·rw [if_pos hc0] at hgo
   rw [hres _ hgo]
   clear hgo hres
   generalize atI l a.n = bi at *
   generalize pitI y a.pit = pi at *
   conv => whnf
   repeat' (first|((refine PickE.mk _ hxD ?_);conv=>whnf)|((with_reducible refine Split.of_true ?_);conv=>whnf)|((with_reducible refine Split.dec (fun _=>?_) (fun _=>?_))<;>conv=>whnf)|((with_reducible refine Need.mk ?_ ?_);(first|omega|rfl|decide|(refine ⟨?_,?_⟩<;>simp<;>omega)|(simp;omega));conv=>whnf)|((with_reducible refine AltK.l ?_);(conv=>whnf);(first|(refine CallK.mk _ (w1) ?_)|(refine CallK.mk _ (w2) ?_));conv=>whnf)|(exfalso;first|omega|contradiction)|fail)
   all_goals first
    | rfl
    |(exfalso; omega)
  rw [if_neg hc0] at hgo
  obtain ⟨b, hb⟩ : ∃ b : Nat, atI l a.n = b := ⟨(atI l a.n).toNat, by omega⟩
  obtain ⟨p, hp⟩ : ∃ p : Nat, pitI y a.pit = p := ⟨(pitI y a.pit).toNat, by omega⟩
  rw [hb, hp] at hgo hc0
  rw [hb] at w1 l1
  rw [hp] at w2 l2
  simp only [Int.toNat_natCast] at hgo
  clear hb hp
  have w3 := hAc p b (by omega) (by omega)
  cases hac : accF y l p b with
  | false =>
   rw [hac, if_pos rfl] at hgo
   rw [hac] at w3
   rw [hres _ hgo]
   clear hgo hres
   conv => whnf
   repeat' (first|((refine PickE.mk _ hxD ?_);conv=>whnf)|((with_reducible first|refine Split.of_true ?_|refine Split.of_false ?_);conv=>whnf)|(with_reducible refine Split.neg ?_)|((with_reducible refine Split.dec (fun _=>?_) (fun _=>?_))<;>conv=>whnf)|((with_reducible refine Need.mk ?_ ?_);(first|omega|rfl|decide|(refine ⟨?_,?_⟩<;>simp<;>omega)|(simp;omega));conv=>whnf)|((with_reducible refine AltK.l ?_);(conv=>whnf);(first|(refine CallK.mk _ (w1) ?_)|(refine CallK.mk _ (w2) ?_)|(refine CallK.mk _ (w3) ?_));conv=>whnf)|(exfalso;first|omega|contradiction)|fail)
   all_goals first
    | rfl
    |(exfalso; omega)
  | true =>
  rw [hac, if_neg (by decide)] at hgo
  rw [hac] at w3
  conv => whnf
  repeat' (first|((refine PickE.mk _ hxD ?_);conv=>whnf)|((with_reducible refine Split.of_true ?_);conv=>whnf)|(with_reducible refine Split.neg ?_)|((with_reducible refine Split.dec (fun _=>?_) (fun _=>?_))<;>conv=>whnf)|((with_reducible refine Need.mk ?_ ?_);(first|omega|rfl|decide|(refine ⟨?_,?_⟩<;>simp<;>omega)|(simp;omega));conv=>whnf)|((with_reducible refine AltK.l ?_);(conv=>whnf);(first|(refine CallK.mk _ (w1) ?_)|(refine CallK.mk _ (w2) ?_)|(refine CallK.mk _ (w3) ?_));conv=>whnf)|(exfalso;first|omega|contradiction)|fail)
  all_goals first
   |(exfalso; omega)
   | skip
  refine LoopK.o3 (fun j : Nat => j ≤ sn.length ∧ ∀ c ∈ sn.take j, c ≠ ((b : Int), (p : Int))) (fun j => [(65, .d (iD j))]) (fun _ => []) (fun j => sn.length - j) 0 ⟨by omega, by simp⟩ (by refine ⟨?_, ?_, rfl⟩<;>(repeat' (first|exact True.intro|exact rfl|(refine ⟨?_,?_⟩)|(intro h;cases h;done)|fail));done) ?_
  rintro j ⟨hj, hjn⟩
  by_cases hjl : j < sn.length
  ·obtain ⟨c, hc⟩ := some_of_lt hjl
   have hcD : (sn.map prD)[(j : Int).toNat]? = some (D.agg [iD c.1, iD c.2]) := by rw [Int.toNat_natCast, List.getElem?_map, hc]; rfl
   by_cases hce : c = ((b : Int), (p : Int))
   ·have hin : ((b : Int), (p : Int)) ∈ sn := by rw [← hce]; exact List.mem_of_getElem? hc
    rw [if_pos hin] at hgo
    rw [hres _ hgo]
    clear hgo hres
    subst hce
    conv => whnf
    repeat' (first|((refine PickE.mk _ hcD ?_);conv=>whnf)|((with_reducible refine Split.of_true ?_);conv=>whnf)|((with_reducible refine Split.eqz (fun _=>?_) (fun _=>?_))<;>conv=>whnf)|(with_reducible refine Split.and ?_)|((with_reducible refine Split.dec (fun _=>?_) (fun _=>?_))<;>conv=>whnf)|((with_reducible refine Need.mk ?_ ?_);(first|omega|rfl|decide|(refine ⟨?_,?_⟩<;>simp<;>omega)|(simp;omega));conv=>whnf)|((with_reducible refine Wr.inr ?_ ?_);(first|omega|(simp;omega));conv=>whnf)|(exfalso;first|omega|contradiction)|fail)
    all_goals first
     | rfl
     | contradiction
     |(exfalso; omega)
   ·conv => whnf
    repeat' (first|((refine PickE.mk _ hcD ?_);conv=>whnf)|((with_reducible refine Split.of_true ?_);conv=>whnf)|((with_reducible refine Split.eqz (fun _=>?_) (fun _=>?_))<;>conv=>whnf)|(with_reducible refine Split.and ?_)|((with_reducible refine Split.dec (fun _=>?_) (fun _=>?_))<;>conv=>whnf)|((with_reducible refine Need.mk ?_ ?_);(first|omega|rfl|decide|(refine ⟨?_,?_⟩<;>simp<;>omega)|(simp;omega));conv=>whnf)|((with_reducible refine Wr.inr ?_ ?_);(first|omega|(simp;omega));conv=>whnf)|(exfalso;first|omega|contradiction)|fail)
    all_goals first
     |(exfalso; exact hce (Prod.ext (by assumption) (by assumption)))
     | skip
    all_goals refine Again.av (j + 1) ⟨by omega, fun z hz => ?_⟩ (by omega) (by refine ⟨?_, ?_, rfl⟩<;>(repeat' (first|exact True.intro|exact rfl|(refine ⟨?_,?_⟩)|(intro h;cases h;done)|fail));done)
    all_goals
     rw [take_snoc hc] at hz
     rcases List.mem_append.1 hz with hz | hz
     ·exact hjn z hz
     ·rw [List.mem_singleton.1 hz]; exact hce
  ·have hje : j = sn.length := by omega
   subst hje
   rw [List.take_length] at hjn
   have hni : ((b : Int), (p : Int)) ∉ sn := fun h => hjn _ h rfl
   rw [if_neg hni] at hgo
   obtain ⟨vb, hvb1⟩ := some_of_lt (show b < v.length by omega)
   obtain ⟨rp, hrp1⟩ := some_of_lt (show p < r.length by omega)
   have k1 := hvb vb (List.mem_of_getElem? hvb1)
   have k2 := hrb rp (List.mem_of_getElem? hrp1)
   rw [show v.getD b 0 = vb by rw [List.getD, hvb1]; rfl, show r.getD p 0 = rp by rw [List.getD, hrp1]; rfl] at hgo
   by_cases hbig : vb < a.vol ∨ rp < a.vol
   ·rw [if_pos hbig] at hgo
    rw [hres _ hgo]
    clear hgo hres
    conv => whnf
    repeat' (first|((refine PickE.map p hrp1 (by omega) ?_);conv=>whnf)|((refine PickE.map b hvb1 (by omega) ?_);conv=>whnf)|((with_reducible refine Split.of_true ?_);conv=>whnf)|((with_reducible refine Split.dec (fun _=>?_) (fun _=>?_))<;>conv=>whnf)|((with_reducible refine Need.mk ?_ ?_);(first|omega|rfl|decide|(refine ⟨?_,?_⟩<;>simp<;>omega)|(simp;omega));conv=>whnf)|((with_reducible refine Wr.inr ?_ ?_);(first|omega|(simp;omega));conv=>whnf)|(exfalso;first|omega|contradiction)|fail)
    all_goals first
     | rfl
     |(exfalso; omega)
   ·rw [if_neg hbig] at hgo
    have hmp1 : sn.map prD ++ [D.agg [iD (b : Int), iD (p : Int)]] = (sn ++ [((b : Int), (p : Int))]).map prD := by simp [prD]
    have hmp2 : (v.map iD).set (b : Int).toNat (iD (vb - a.vol)) = (v.set b (vb - a.vol)).map iD := by rw [Int.toNat_natCast, List.map_set]
    have hmp3 : (r.map iD).set (p : Int).toNat (iD (rp - a.vol)) = (r.set p (rp - a.vol)).map iD := by rw [Int.toNat_natCast, List.map_set]
    conv => whnf
    repeat' (first|((refine PickE.map p hrp1 (by omega) ?_);conv=>whnf)|((refine PickE.map b hvb1 (by omega) ?_);conv=>whnf)|((with_reducible refine Split.of_true ?_);conv=>whnf)|((with_reducible refine Split.dec (fun _=>?_) (fun _=>?_))<;>conv=>whnf)|((with_reducible refine Need.mk ?_ ?_);(first|omega|rfl|decide|(refine ⟨?_,?_⟩<;>simp<;>omega)|(simp;omega));conv=>whnf)|((with_reducible refine Wr.inr ?_ ?_);(first|omega|(simp;omega));conv=>whnf)|(exfalso;first|omega|contradiction)|fail)
    all_goals first
     |(exfalso; omega)
     | skip
    refine Again.av (i + 1, v.set b (vb - a.vol), r.set p (rp - a.vol), sn ++ [((b : Int), (p : Int))]) ⟨by dsimp only;omega, hgo, by rw [List.length_set];exact hvl, by rw [List.length_set];exact hrl, by simp;omega, fun q hq => ?_, fun q hq => ?_⟩ (by dsimp only;omega) (by refine ⟨?_, ?_, rfl⟩<;>(repeat' (first|exact True.intro|exact rfl|(refine ⟨?_,?_⟩)|(intro h;cases h;done)|(refine own_congr ?_;simp;done)|exact hmp1|exact hmp2|exact hmp3|fail));done)
    ·rcases List.mem_or_eq_of_mem_set hq with h1 | h1
     ·exact hvb q h1
     ·omega
    ·rcases List.mem_or_eq_of_mem_set hq with h1 | h1
     ·exact hrb q h1
     ·omega
 ·rw [List.drop_eq_nil_of_le (show x.length ≤ i by omega), asgGo] at hgo
  rw [hres _ hgo]
  have w4 := ev_ContainsIf v 93 (fun z => z != 0) (by omega) (fun z _ => ev_assigned1 z)
  dsimp only
  conv => whnf
  repeat' (first|((with_reducible refine Split.dec (fun _=>?_) (fun _=>?_))<;>conv=>whnf)|((with_reducible refine Need.mk ?_ ?_);(first|omega|rfl|decide|(refine ⟨?_,?_⟩<;>simp<;>omega)|(simp;omega));conv=>whnf)|((with_reducible refine AltK.l ?_);(conv=>whnf);(first|(refine CallK.mk _ (w4) ?_));conv=>whnf)|(exfalso;first|omega|contradiction)|fail)
  all_goals first
   | rfl
   |(exfalso; omega)
end Go.Proofs.Try
end

section
namespace Go.Proofs.Try
open Go Go.Vm
set_option maxRecDepth 20000
theorem bk_ten {y : Yd} (h : ydErr y = 0) : ∀ f ∈ y.bulk, f.num ≤ 10 * f.den := by
 unfold ydErr at h
 split at h
 ·cases h
 split at h
 ·contradiction
 split at h
 ·cases h
 split at h
 ·contradiction
 rename_i h2
 have z2 := nmGo_zero (show nmGo Bk.soil bkErr [] y.bulk = 0 by simpa using h2)
 intro f hf
 have h := (z2 f hf).1
 unfold bkErr at h
 split at h
 ·cases h
 rename_i h1
 simp [outsideB] at h1
 omega
theorem volsGo_13 {y : Yd} (ht : ∀ f ∈ y.bulk, f.num ≤ 10 * f.den) : ∀ {l : List Bt} {c : List Int}, (∀ b ∈ l, ∃ k f z, Wok y b k f z) → CarOk y c → ∀ v ∈ volsGo y c l, v ≤ 10000000000000
 | [], _, _, _ => by simp [volsGo]
 | b :: r, c, h, hc => by
  obtain ⟨k, f, z0, hW⟩ := h b (by simp)
  obtain ⟨z, hz⟩ := some_of_lt (show k < c.length by rw [hc.len]; exact lt_of_some hW.fat)
  have hzb := hc.at_ k f z hW.fat hz
  have hden := hW.fo.den
  have hnum := hW.fo.num
  have hten := ht f (List.mem_of_getElem? hW.fat)
  have hbed := hW.bok.bed
  have hov := hW.bok.over
  have ek : (facI y b.soil).toNat = k := by rw [hW.ixk]; rfl
  have ef : bkAt y k = f := by rw [bkAt, List.getD, hW.fat]; rfl
  have ec : c.getD k 0 = z := by rw [List.getD, hz]; rfl
  have hcar := carN_bd (b := b) (f := f) (c := z) hW.bok hW.fo hzb
  have ih := volsGo_13 ht (l := r) (c := c.set k (carN b f z)) (fun x hx => h x (List.mem_cons_of_mem _ hx)) (hc.set hW.fat hcar)
  rw [volsGo, ek, ef, ec]
  intro v hv
  rcases List.mem_cons.1 hv with rfl | hv
  ·have h1 : (b.bed - b.over) * f.num ≤ 1000000000000 * (10 * f.den) := Int.mul_le_mul (by omega) (by omega) (by omega) (by decide)
   have h2 : ((b.bed - b.over) * f.num + z) / f.den < 10000000000001 := Int.ediv_lt_of_lt_mul (by omega) (by omega)
   unfold volN
   omega
  ·exact ih v hv
theorem vol_13 {y : Yd} {l : List Bt} (h : LsOk y l) (b : Nat) : (volF y l).getD b 0 ≤ 10000000000000 := by
 have hy := yd_ok h.yd
 have h1 := volsGo_13 (bk_ten h.yd) h.wok ⟨hy.carL, hy.car⟩
 have h2 := (volsGo_spec h.wok ⟨hy.carL, hy.car⟩).2
 exact (getD_bd9 (fun x hx => ⟨(h2 x hx).1, h1 x hx⟩) (by decide) b).2
theorem cost_swap {P L : Nat} {pr : Nat → Int} {fl : List (List Int)} {room : List Int} (hd : Dim P L fl) : costS P L pr fl = sumN P fun p => (room.getD p 0 - freeF room fl p) * pr p := by
 unfold costS
 rw [sumN_swap]
 refine sumN_congr fun p _ => ?_
 rw [sumN_mul, free_sum hd]
 congr 1
 omega
theorem costS_bd {y : Yd} {l : List Bt} {fl : List (List Int)} (h : LsOk y l) (hf : FlOk (accF y l) y.pits.length l.length (volF y l) (roomF y) fl) : costS y.pits.length l.length (priceF y) fl ≤ 9000000000000000000 := by
 have hy := yd_ok h.yd
 rw [cost_swap hf.dim (room := roomF y)]
 have := sumN_bd (f := fun p => ((roomF y).getD p 0 - freeF (roomF y) fl p) * priceF y p) (M := 400000000000000000) (n := y.pits.length) fun p hp => by
  have h1 := hf.fr p hp
  have h2 := room_bd hy p
  have h3 := priceF_bd hy p
  have h4 : 0 ≤ (roomF y).getD p 0 - freeF (roomF y) fl p := by
   rw [free_sum hf.dim]
   have := sumN_nn (f := fun b => cellZ fl b p) (n := l.length) fun b _ => hf.nn b p
   omega
  have := Int.mul_le_mul (show (roomF y).getD p 0 - freeF (roomF y) fl p ≤ 40000000000000 by omega) (show priceF y p ≤ 10000 by omega) (by omega) (by decide)
  omega
 have := hy.pits
 omega
theorem sumA_one {q : Al → Bool} : ∀ {x : List Al} {a : Al}, (∀ c ∈ x, 0 < c.vol) → a ∈ x → q a = true → a.vol ≤ sumA q x
 | [], _, _, h, _ => by cases h
 | c :: r, a, hp, h, hq => by
  rw [sumA_cons]
  have h1 := sumA_nn (q := q) (x := r) fun d hd => hp d (List.mem_cons_of_mem _ hd)
  have h2 := hp c List.mem_cons_self
  rcases List.mem_cons.1 h with rfl | h
  ·rw [if_pos hq]; omega
  ·have := sumA_one (fun d hd => hp d (List.mem_cons_of_mem _ hd)) h hq
   split <;> omega
theorem chr_bd {y : Yd} {l : List Bt} {x : List Al} (h : LsOk y l) (hc : Chr (accF y l) (atI l) (pitI y) y.pits.length l.length (fun b => (volF y l).getD b 0) (fun p => (roomF y).getD p 0) [] x) :
 (∀ a ∈ x, 0 ≤ pitI y a.pit ∧ 0 ≤ a.vol ∧ a.vol ≤ 100000000000000000) ∧ costF y x ≤ 9000000000000000000 := by
 refine ⟨fun a ha => ?_, ?_⟩
 ·have hv := hc.ok a ha
  have k1 := hv.b
  have k2 := hv.p
  have k3 := hv.v
  have l1 : atI l a.n < l.length := ix_lt
  have h1 := hc.sb (atI l a.n).toNat (by omega)
  have h2 := sumA_one (q := fun c => atI l c.n == ((atI l a.n).toNat : Int)) (fun c hc' => (hc.ok c hc').v) ha (by simp; omega)
  have h3 := vol_13 h (atI l a.n).toNat
  omega
 ·obtain ⟨fl, h1, -, h3⟩ := chr_flow hc
  rw [← h3]
  exact costS_bd h h1
/-! A tariff. -/
def inR (v : Int) : Bool := decide (0 ≤ v) && decide (v ≤ 20000)
theorem inR_iff {v : Int} : inR v = true ↔ 0 ≤ v ∧ v ≤ 20000 := by simp [inR]
section
variable {acc : Nat → Nat → Bool} {P L : Nat} {pr : Nat → Int} {bs ps : List Int}
def yldB (acc : Nat → Nat → Bool) (P L : Nat) (pr : Nat → Int) (bs ps : List Int) : Bool :=
 decide (bs.length = L) && decide (ps.length = P) && ps.all inR && bs.all inR && (List.range L).all fun b => (List.range P).all fun p => !acc p b || decide (bs.getD b 0 ≤ pr p + ps.getD p 0)
structure Yld (acc : Nat → Nat → Bool) (P L : Nat) (pr : Nat → Int) (bs ps : List Int) : Prop where
 bl : bs.length = L
 pl : ps.length = P
 pb : ∀ v ∈ ps, 0 ≤ v ∧ v ≤ 20000
 bb : ∀ v ∈ bs, 0 ≤ v ∧ v ≤ 20000
 ac : ∀ b, b < L → ∀ p, p < P → acc p b = true → bs.getD b 0 ≤ pr p + ps.getD p 0
theorem yld_iff : yldB acc P L pr bs ps = true ↔ Yld acc P L pr bs ps := by
 simp only [yldB, Bool.and_eq_true, decide_eq_true_eq, List.all_eq_true, inR_iff, List.mem_range, Bool.or_eq_true, Bool.not_eq_true']
 constructor
 ·rintro ⟨⟨⟨⟨h1, h2⟩, h3⟩, h4⟩, h5⟩
  refine ⟨h1, h2, h3, h4, fun b hb p hp ha => ?_⟩
  rcases h5 b hb p hp with h | h
  ·rw [ha] at h; cases h
  ·exact h
 ·intro h
  refine ⟨⟨⟨⟨h.bl, h.pl⟩, h.pb⟩, h.bb⟩, fun b hb p hp => ?_⟩
  cases ha : acc p b with
  | false => exact .inl rfl
  | true => exact .inr (h.ac b hb p hp ha)
theorem yld_no (h : ¬ Yld acc P L pr bs ps) : yldB acc P L pr bs ps = false := by
 rw [← yld_iff, Bool.not_eq_true] at h; exact h
end
def prvB (y : Yd) (l : List Bt) (f : Frt) : Bool :=
 asgB (accF y l) (atI l) (pitI y) (volF y l) (roomF y) f.xs && decide (costF y f.xs = f.cost) && yldB (accF y l) y.pits.length l.length (priceF y) f.tf.bs f.tf.ps && decide (yieldS y.pits.length l.length (volF y l) (roomF y) f.tf.bs f.tf.ps = f.cost)
theorem asg_chr9 {y : Yd} {l : List Bt} (h : LsOk y l) (x : List Al) : asgB (accF y l) (atI l) (pitI y) (volF y l) (roomF y) x = true ↔ Chr (accF y l) (atI l) (pitI y) y.pits.length l.length (fun b => (volF y l).getD b 0) (fun p => (roomF y).getD p 0) [] x := by
 have hy := yd_ok h.yd
 exact asgB_chr (P := y.pits.length) (L := l.length) atI_ok.lt (fun s => pitI_lt s) (volsGo_spec h.wok ⟨hy.carL, hy.car⟩).1 (by rw [roomF, List.length_map]) (fun p _ => (room_bd hy p).1) x
section
variable {y : Yd} {l : List Bt} {fl : List (List Int)} {t : Tf}
theorem left_done (h : FlOk (accF y l) y.pits.length l.length (volF y l) (roomF y) fl) (hd : doneF l.length (volF y l) fl = true) : ∀ b, b < l.length → leftF (volF y l) fl b = 0 := fun b hb => by
 have h1 := done_iff.1 hd b hb
 have h2 := h.lf b hb
 omega
theorem chr_done {x : List Al} (hf : FlOk (accF y l) y.pits.length l.length (volF y l) (roomF y) fl) (hs : ∀ p, p < y.pits.length → Shut (accF y l) y.pits.length l.length (volF y l) (roomF y) fl p)
 (hc : Chr (accF y l) (atI l) (pitI y) y.pits.length l.length (fun b => (volF y l).getD b 0) (fun p => (roomF y).getD p 0) [] x) : doneF l.length (volF y l) fl = true := by
 cases hd : doneF l.length (volF y l) fl with
 | true => rfl
 | false =>
  obtain ⟨w, -, -, h1⟩ := is_cut hf hs hd (Nat.le_refl l.length)
  obtain ⟨f2, g1, g2, -⟩ := chr_flow hc
  have := no_cut g1 (done_iff.2 fun b hb => by rw [g2 b hb]; exact Int.le_refl _) (hasN w.bs)
  omega
theorem cost_all9 (h : LsOk y l) (hf : FlOk (accF y l) y.pits.length l.length (volF y l) (roomF y) fl) : costF y (allF y l fl l.length) = costS y.pits.length l.length (priceF y) fl := cost_all h.yd hf.nn l.length
theorem solved_yld (h : Solved y l fl t) : Yld (accF y l) y.pits.length l.length (priceF y) t.bs t.ps := ⟨h.ti.bl, h.ti.pl, fun v hv => by have := h.pb v hv; omega, fun v hv => by have := h.bb v hv; omega, fun b hb p hp ha => (h.tf b hb p hp ha).1⟩
theorem solved_cost (hO : LsOk y l) (h : Solved y l fl t) (hd : doneF l.length (volF y l) fl = true) : yieldS y.pits.length l.length (volF y l) (roomF y) t.bs t.ps = costF y (allF y l fl l.length) := by
 rw [cost_all9 hO h.ok]
 exact yield_strong h.ok (left_done h.ok hd) h.ti (fun p hp => by
  have := getD_bd9 (M := 10000) h.pb (by decide) p
  exact this.1) h.tf
theorem prv_own (hO : LsOk y l) (h : Solved y l fl t) (hd : doneF l.length (volF y l) fl = true) : prvB y l ⟨allF y l fl l.length, costF y (allF y l fl l.length), t⟩ = true := by
 simp only [prvB, Bool.and_eq_true, decide_eq_true_eq]
 exact ⟨⟨⟨(asg_chr9 hO _).2 (all_chr hO h.ok hd), trivial⟩, yld_iff.2 (solved_yld h)⟩, solved_cost hO h hd⟩
theorem yld_cheap {bs ps : List Int} (hy : Yld (accF y l) y.pits.length l.length (priceF y) bs ps) {x : List Al} (hc : Chr (accF y l) (atI l) (pitI y) y.pits.length l.length (fun b => (volF y l).getD b 0) (fun p => (roomF y).getD p 0) [] x) :
 yieldS y.pits.length l.length (volF y l) (roomF y) bs ps ≤ costF y x := by
 obtain ⟨f2, g1, g2, g3⟩ := chr_flow hc
 rw [← g3]
 exact yield_weak g1 g2 bs ps (fun p hp => (getD_bd9 (M := 20000) hy.pb (by decide) p).1) hy.ac
end
end Go.Proofs.Try
end

section
namespace Go.Proofs.Try
open Go Go.Vm
set_option maxRecDepth 20000
set_option maxHeartbeats 8000000
theorem ev_priceD {y : Yd} {l : List Bt} {vol room : List Int} {fl : List (List Int)} (hP : y.pits.length ≤ 1000000) (xs : List Al) (hn : xs.length ≤ 1000) (hx : ∀ a ∈ xs, 0 ≤ pitI y a.pit ∧ 0 ≤ a.vol ∧ a.vol ≤ 100000000000000000) (hp : ∀ p ∈ y.pits, 0 ≤ p.price ∧ p.price ≤ 10000) (hT : costF y xs ≤ 9000000000000000000) :
 Ev Try.prog 44 [.ref (tkC y l vol room fl) 0, .sl 3 (xs.map alD)] (iD (costF y xs)) := by
 have hlp : (y.pits.map ptD).length = y.pits.length := List.length_map _
 have hlx : (xs.map alD).length = xs.length := List.length_map _
 have h0 : costF y (xs.take 0) = 0 := rfl
 unfold tkC
 refine ev_of_awp tysOk mixed (fn := Try.f44) Try.func44 rfl rfl rfl ?_
 conv => whnf
 skip
 refine LoopK.o3 (fun i : Nat => i ≤ xs.length) (fun i => [(5, .d (iD (costF y (xs.take i)))), (10, .d (iD i))]) (fun _ => []) (fun i => xs.length - i) 0 (by omega) (by refine ⟨?_, ?_, rfl⟩<;>(repeat' (first|exact True.intro|exact rfl|(refine ⟨?_,?_⟩)|fail));done) ?_
 rintro i hi
 dsimp only at hi ⊢
 by_cases hil : i < xs.length
 ·obtain ⟨a, ha⟩ := some_of_lt hil
  obtain ⟨a1, a2, a3⟩ := hx a (List.mem_of_getElem? ha)
  obtain ⟨j, q, hj, hq, -⟩ := ix_at (show ¬ ixI (fun p => sEq p.name a.pit) y.pits < 0 by have : 0 ≤ ixI (fun p => sEq p.name a.pit) y.pits := a1; omega)
  have hw := ev_pitOf y a.pit (by omega)
  have hj : pitI y a.pit = j := hj
  rw [hj] at hw
  have hqp := hp q (List.mem_of_getElem? hq)
  have hpr : prA y a = a.vol * q.price := by rw [prA, hj, Int.toNat_natCast, priceF, hq]
  have hst : costF y (xs.take (i + 1)) = costF y (xs.take i) + a.vol * q.price := by rw [List.take_add_one, ha, ← hpr]; simp [costF]
  have hle := cost_le (y := y) (xs := xs) (fun a ha => ⟨(hx a ha).2.1, (hx a ha).1⟩) (fun p hp' => (hp p hp').1) (i + 1)
  have hge := cost_nn (y := y) (xs := xs) (fun a ha => ⟨(hx a ha).2.1, (hx a ha).1⟩) (fun p hp' => (hp p hp').1) i
  have hmul : 0 ≤ a.vol * q.price := Int.mul_nonneg a2 hqp.1
  have hxD : (xs.map alD)[(i : Int).toNat]? = some (D.agg [iD a.n, .str a.pit, iD a.vol]) := by rw [Int.toNat_natCast, List.getElem?_map, ha]; rfl
  rw [hst] at hle
  generalize costF y (xs.take i) = c at *
  conv => whnf
  repeat' (first|((refine PickE.map j hq (by omega) ?_);conv=>whnf)|((refine PickE.mk _ hxD ?_);conv=>whnf)|((with_reducible refine Split.dec (fun _=>?_) (fun _=>?_))<;>conv=>whnf)|((with_reducible refine Need.mk ?_ ?_);(first|omega|rfl|decide|(refine ⟨?_,?_⟩<;>simp<;>omega)|(simp;omega));conv=>whnf)|((with_reducible refine Wr.inr ?_ ?_);(first|omega|(simp;omega));conv=>whnf)|((with_reducible refine AltK.l ?_);(conv=>whnf);(first|(refine CallK.mk _ (hw) ?_));conv=>whnf)|(exfalso;first|omega|contradiction)|fail)
  refine Again.av (i + 1) (by omega) (by omega) ?_
  rw [hst]
  exact (by refine ⟨?_, ?_, rfl⟩<;>(repeat' (first|exact True.intro|exact rfl|(refine ⟨?_,?_⟩)|fail));done)
 ·have hie : i = xs.length := by omega
  subst hie
  rw [List.take_length]
  conv => whnf
  repeat' (first|((with_reducible refine Split.dec (fun _=>?_) (fun _=>?_))<;>conv=>whnf)|((with_reducible refine Need.mk ?_ ?_);(first|omega|rfl|decide|(refine ⟨?_,?_⟩<;>simp<;>omega)|(simp;omega));conv=>whnf)|(exfalso;first|omega|contradiction)|fail)
  rfl
theorem inR_out (v : Int) : (!outsideB v 0 20000) = inR v := by
 rw [Bool.eq_iff_iff]
 simp [outsideB, inR]
theorem getD_o9 {l : List Int} {i : Nat} {v : Int} (h : l[i]? = some v) : l.getD i 0 = v := by rw [List.getD, h]; rfl
theorem take_all9 {l : List Int} {q : Int → Bool} {i : Nat} (hi : l.length ≤ i) (h : ∀ v ∈ l.take i, q v = true) : ∀ v ∈ l, q v = true := by rwa [List.take_of_length_le hi] at h
theorem take_one9 {l : List Int} {q : Int → Bool} {i : Nat} {v : Int} (hv : l[i]? = some v) (h : ∀ v ∈ l.take i, q v = true) (hq : q v = true) : ∀ v ∈ l.take (i + 1), q v = true := by
 intro z hz
 rw [take_snoc hv] at hz
 rcases List.mem_append.1 hz with hz | hz
 ·exact h z hz
 ·rw [List.mem_singleton.1 hz]; exact hq
theorem inR_take {l : List Int} {i j : Nat} (h : ∀ v ∈ l.take i, inR v = true) (hj : j < i) : 0 ≤ l.getD j 0 ∧ l.getD j 0 ≤ 20000 := by
 rw [List.getD_eq_getElem?_getD]
 cases hv : l[j]? with
 | none => simp
 | some v =>
  have := h v (List.mem_take_iff_getElem.2 ⟨j, by have := lt_of_some hv; omega, (List.getElem?_eq_some_iff.1 hv).2⟩)
  exact inR_iff.1 this
theorem prod_bd {a b M N : Int} (ha : 0 ≤ a ∧ a ≤ M) (hb : 0 ≤ b ∧ b ≤ N) : 0 ≤ a * b ∧ a * b ≤ M * N :=
 ⟨Int.mul_nonneg ha.1 hb.1, Int.mul_le_mul ha.2 hb.2 hb.1 (by omega)⟩
def yldP (room ps : List Int) (p : Nat) : Int := sumN p fun p => ps.getD p 0 * room.getD p 0
def yldN (vol bs : List Int) (b : Nat) : Int := sumN b fun b => bs.getD b 0 * vol.getD b 0
theorem yldP_bd {room ps : List Int} (hr : ∀ p, 0 ≤ room.getD p 0 ∧ room.getD p 0 ≤ 40000000000000) {p : Nat} (h : ∀ v ∈ ps.take p, inR v = true) : 0 ≤ yldP room ps p ∧ yldP room ps p ≤ p * 800000000000000000 :=
 ⟨sumN_nn fun q hq => (prod_bd (inR_take h hq) (hr q)).1, sumN_bd fun q hq => (prod_bd (inR_take h hq) (hr q)).2⟩
theorem yldN_bd {vol bs : List Int} (hv : ∀ b, 0 ≤ vol.getD b 0 ∧ vol.getD b 0 ≤ 10000000000000) {b : Nat} (h : ∀ v ∈ bs.take b, inR v = true) : 0 ≤ yldN vol bs b ∧ yldN vol bs b ≤ b * 200000000000000000 :=
 ⟨sumN_nn fun q hq => (prod_bd (inR_take h hq) (hv q)).1, sumN_bd fun q hq => (prod_bd (inR_take h hq) (hv q)).2⟩
theorem ev_yields {y : Yd} {l : List Bt} {vol room : List Int} {fl : List (List Int)} (h : TkOk y l vol room fl) (hpp : ∀ p ∈ y.pits, 0 ≤ p.price ∧ p.price ≤ 10000) (hvb : ∀ b, 0 ≤ vol.getD b 0 ∧ vol.getD b 0 ≤ 10000000000000) (hrb : ∀ p, 0 ≤ room.getD p 0 ∧ room.getD p 0 ≤ 40000000000000) (bs ps : List Int) :
 Ev Try.prog 47 [.ref (tkC y l vol room fl) 0, .agg [.sl 1 (bs.map iD), .sl 1 (ps.map iD)]] (.tup [iD (if yldB (accF y l) y.pits.length l.length (priceF y) bs ps = true then yieldS y.pits.length l.length vol room bs ps else 0), .bool (yldB (accF y l) y.pits.length l.length (priceF y) bs ps)]) := by
 have e1 := h.hv
 have e2 := h.hr
 have e3 := h.hL
 have e4 := h.hP
 have hlb : (bs.map iD).length = bs.length := List.length_map _
 have hlq : (ps.map iD).length = ps.length := List.length_map _
 have hlp : (y.pits.map ptD).length = y.pits.length := List.length_map _
 have hll : (l.map btD).length = l.length := List.length_map _
 have hlv : (vol.map iD).length = vol.length := List.length_map _
 have hlr : (room.map iD).length = room.length := List.length_map _
 have hno : ¬ Yld (accF y l) y.pits.length l.length (priceF y) bs ps → yldB (accF y l) y.pits.length l.length (priceF y) bs ps = false := yld_no
 have hyes : Yld (accF y l) y.pits.length l.length (priceF y) bs ps → yldB (accF y l) y.pits.length l.length (priceF y) bs ps = true := yld_iff.2
 have hAc := fun (p b : Nat) (hp : p < y.pits.length) (hb : b < l.length) => ev_acceptsD (y := y) (l := l) (vol := vol) (room := room) (fl := fl) hp hb h.cl
 unfold tkC at hAc ⊢
 generalize yldB (accF y l) y.pits.length l.length (priceF y) bs ps = B at *
 by_cases hb : bs.length = l.length
 case neg =>
  rw [hno fun h => hb h.bl]
  refine ev_of_awp tysOk mixed (fn := Try.f47) Try.func47 rfl rfl rfl ?_
  conv => whnf
  repeat' (first|((with_reducible refine Split.of_true ?_);conv=>whnf)|((with_reducible refine Split.nez (fun _=>?_) (fun _=>?_))<;>conv=>whnf)|(exfalso;first|omega|contradiction)|fail)
  all_goals first
   | rfl
   |(exfalso; omega)
 by_cases hq : ps.length = y.pits.length
 case neg =>
  rw [hno fun h => hq h.pl]
  refine ev_of_awp tysOk mixed (fn := Try.f47) Try.func47 rfl rfl rfl ?_
  conv => whnf
  repeat' (first|((with_reducible refine Split.of_true ?_);conv=>whnf)|((with_reducible refine Split.nez (fun _=>?_) (fun _=>?_))<;>conv=>whnf)|(exfalso;first|omega|contradiction)|fail)
  all_goals first
   | rfl
   |(exfalso; omega)
 refine ev_of_awp tysOk mixed (fn := Try.f47) Try.func47 rfl rfl rfl ?_
 conv => whnf
 repeat' (first|((with_reducible refine Split.of_true ?_);conv=>whnf)|((with_reducible refine Split.nez (fun _=>?_) (fun _=>?_))<;>conv=>whnf)|(exfalso;first|omega|contradiction)|fail)
 all_goals first
  |(exfalso; omega)
  | skip
 refine LoopK.o3 (fun p : Nat => p ≤ ps.length ∧ ∀ v ∈ ps.take p, inR v = true) (fun p => [(36, .d (iD p)), (6, .d (iD (-(yldP room ps p))))]) (fun _ => []) (fun p => ps.length - p) 0 ⟨by omega, by simp⟩ (by refine ⟨?_, ?_, rfl⟩<;>(repeat' (first|exact True.intro|exact rfl|(refine ⟨?_,?_⟩)|(intro h;cases h;done)|fail));done) ?_
 rintro p ⟨hp, hpr⟩
 dsimp only at hp ⊢
 have hbp := yldP_bd hrb hpr
 by_cases hpl : p < ps.length
 ·obtain ⟨v, hv⟩ := some_of_lt hpl
  have w1 := ev_dwithin v 0 20000
  rw [inR_out] at w1
  cases hin : inR v with
  | false =>
   rw [hin] at w1
   rw [hno fun h => by have := inR_iff.2 (h.pb v (List.mem_of_getElem? hv)); rw [hin] at this; cases this]
   conv => whnf
   repeat' (first|((refine PickE.map p hv (by omega) ?_);conv=>whnf)|((with_reducible refine Split.of_false ?_);conv=>whnf)|(with_reducible refine Split.neg ?_)|((with_reducible refine Split.dec (fun _=>?_) (fun _=>?_))<;>conv=>whnf)|((with_reducible refine Need.mk ?_ ?_);(first|omega|rfl|decide|(refine ⟨?_,?_⟩<;>simp<;>omega)|(simp;omega));conv=>whnf)|((with_reducible refine AltK.l ?_);(conv=>whnf);(first|(refine CallK.mk _ (w1) ?_));conv=>whnf)|(exfalso;first|omega|contradiction)|fail)
   all_goals first
    | rfl
    |(exfalso; omega)
  | true =>
   rw [hin] at w1
   obtain ⟨r, hr⟩ := some_of_lt (show p < room.length by omega)
   have hrp := hrb p
   rw [getD_o9 hr] at hrp
   have hvr := prod_bd (inR_iff.1 hin) hrp
   have hst : yldP room ps (p + 1) = yldP room ps p + v * r := by rw [yldP, sumN, getD_o9 hv, getD_o9 hr]; rfl
   have htk := take_one9 hv hpr hin
   have hb2 := yldP_bd hrb htk
   rw [hst] at hb2
   generalize yldP room ps p = s at *
   conv => whnf
   repeat' (first|((refine PickE.map p hr (by omega) ?_);conv=>whnf)|((refine PickE.map p hv (by omega) ?_);conv=>whnf)|((with_reducible refine Split.of_true ?_);conv=>whnf)|(with_reducible refine Split.neg ?_)|((with_reducible refine Split.dec (fun _=>?_) (fun _=>?_))<;>conv=>whnf)|((with_reducible refine Need.mk ?_ ?_);(first|omega|rfl|decide|(refine ⟨?_,?_⟩<;>simp<;>omega)|(simp;omega));conv=>whnf)|((with_reducible refine Wr.inr ?_ ?_);(first|omega|(simp;omega));conv=>whnf)|((with_reducible refine AltK.l ?_);(conv=>whnf);(first|(refine CallK.mk _ (w1) ?_));conv=>whnf)|(exfalso;first|omega|contradiction)|fail)
   all_goals first
    |(exfalso; omega)
    | skip
   refine Again.av (p + 1) ⟨by omega, htk⟩ (by omega) ?_
   rw [hst]
   exact (by refine ⟨?_, ?_, rfl⟩<;>(repeat' (first|exact True.intro|exact rfl|(refine ⟨?_,?_⟩)|(intro h;cases h;done)|(refine int_congr ?_;(first|omega|(simp;omega)))|fail));done)
 ·have hpe : p = ps.length := by omega
  subst hpe
  have hall := take_all9 (Nat.le_refl _) hpr
  clear hpr
  generalize hS2 : yldP room ps ps.length = S2 at *
  conv => whnf
  repeat' (first|((with_reducible refine Split.dec (fun _=>?_) (fun _=>?_))<;>conv=>whnf)|((with_reducible refine Need.mk ?_ ?_);(first|omega|rfl|decide|(refine ⟨?_,?_⟩<;>simp<;>omega)|(simp;omega));conv=>whnf)|(exfalso;first|omega|contradiction)|fail)
  refine LoopK.o3 (fun b : Nat => b ≤ bs.length ∧ (∀ v ∈ bs.take b, inR v = true) ∧ ∀ b', b' < b → ∀ p, p < y.pits.length → accF y l p b' = true → bs.getD b' 0 ≤ priceF y p + ps.getD p 0) (fun b => [(59, .d (iD b)), (6, .d (iD (yldN vol bs b - S2)))]) (fun _ => []) (fun b => bs.length - b) 0 ⟨by omega, by simp, fun _ h => absurd h (Nat.not_lt_zero _)⟩ (by refine ⟨?_, ?_, rfl⟩<;>(repeat' (first|exact True.intro|exact rfl|(refine ⟨?_,?_⟩)|(intro h;cases h;done)|((first|refine own_congr ?_|refine int_congr ?_|skip);simp [yldN,sumN];done)|fail));done) ?_
  rintro b ⟨hb1, hbr, hba⟩
  dsimp only at hb1 ⊢
  have hbb := yldN_bd hvb hbr
  by_cases hbl : b < bs.length
  ·obtain ⟨v, hv⟩ := some_of_lt hbl
   have w1 := ev_dwithin v 0 20000
   rw [inR_out] at w1
   cases hin : inR v with
   | false =>
    rw [hin] at w1
    rw [hno fun h => by have := inR_iff.2 (h.bb v (List.mem_of_getElem? hv)); rw [hin] at this; cases this]
    conv => whnf
    repeat' (first|((refine PickE.map b hv (by omega) ?_);conv=>whnf)|((with_reducible refine Split.of_false ?_);conv=>whnf)|(with_reducible refine Split.neg ?_)|((with_reducible refine Split.dec (fun _=>?_) (fun _=>?_))<;>conv=>whnf)|((with_reducible refine Need.mk ?_ ?_);(first|omega|rfl|decide|(refine ⟨?_,?_⟩<;>simp<;>omega)|(simp;omega));conv=>whnf)|((with_reducible refine AltK.l ?_);(conv=>whnf);(first|(refine CallK.mk _ (w1) ?_));conv=>whnf)|(exfalso;first|omega|contradiction)|fail)
    all_goals first
     | rfl
     |(exfalso; omega)
   | true =>
    rw [hin] at w1
    have hvr0 := inR_iff.1 hin
    conv => whnf
    repeat' (first|((refine PickE.map b hv (by omega) ?_);conv=>whnf)|((with_reducible refine Split.of_true ?_);conv=>whnf)|(with_reducible refine Split.neg ?_)|((with_reducible refine Split.dec (fun _=>?_) (fun _=>?_))<;>conv=>whnf)|((with_reducible refine Need.mk ?_ ?_);(first|omega|rfl|decide|(refine ⟨?_,?_⟩<;>simp<;>omega)|(simp;omega));conv=>whnf)|((with_reducible refine AltK.l ?_);(conv=>whnf);(first|(refine CallK.mk _ (w1) ?_));conv=>whnf)|(exfalso;first|omega|contradiction)|fail)
    all_goals first
     |(exfalso; omega)
     | skip
    refine LoopK.o3 (fun p : Nat => p ≤ ps.length ∧ ∀ q, q < p → accF y l q b = true → v ≤ priceF y q + ps.getD q 0) (fun p => [(70, .d (iD p))]) (fun _ => []) (fun p => ps.length - p) 0 ⟨by omega, fun _ h => absurd h (Nat.not_lt_zero _)⟩ (by refine ⟨?_, ?_, rfl⟩<;>(repeat' (first|exact True.intro|exact rfl|(refine ⟨?_,?_⟩)|(intro h;cases h;done)|fail));done) ?_
    rintro p ⟨hp, hpa⟩
    by_cases hpl : p < ps.length
    ·have w3 := hAc p b (by omega) (by omega)
     obtain ⟨q, hqq⟩ := some_of_lt (show p < y.pits.length by omega)
     obtain ⟨u, hu⟩ := some_of_lt hpl
     have hub := inR_iff.1 (hall u (List.mem_of_getElem? hu))
     have hqp := hpp q (List.mem_of_getElem? hqq)
     have hpq : priceF y p = q.price := by rw [priceF, hqq]
     cases hac : accF y l p b with
     | false =>
      rw [hac] at w3
      conv => whnf
      repeat' (first|((with_reducible refine Split.of_false ?_);conv=>whnf)|((with_reducible refine Split.dec (fun _=>?_) (fun _=>?_))<;>conv=>whnf)|((with_reducible refine Need.mk ?_ ?_);(first|omega|rfl|decide|(refine ⟨?_,?_⟩<;>simp<;>omega)|(simp;omega));conv=>whnf)|((with_reducible refine Wr.inr ?_ ?_);(first|omega|(simp;omega));conv=>whnf)|((with_reducible refine AltK.l ?_);(conv=>whnf);(first|(refine CallK.mk _ (w3) ?_));conv=>whnf)|(exfalso;first|omega|contradiction)|fail)
      refine Again.av (p + 1) ⟨by omega, fun q' hq' ha => ?_⟩ (by omega) (by refine ⟨?_, ?_, rfl⟩<;>(repeat' (first|exact True.intro|exact rfl|(refine ⟨?_,?_⟩)|(intro h;cases h;done)|fail));done)
      by_cases e : q' = p
      ·subst e; rw [hac] at ha; cases ha
      ·exact hpa q' (by omega) ha
     | true =>
      rw [hac] at w3
      by_cases hgt : q.price + u < v
      ·rw [hno fun h => by
        have := h.ac b (by omega) p (by omega) hac
        rw [getD_o9 hv, getD_o9 hu, hpq] at this
        omega]
       conv => whnf
       repeat' (first|((refine PickE.map p hu (by omega) ?_);conv=>whnf)|((refine PickE.map p hqq (by omega) ?_);conv=>whnf)|((with_reducible refine Split.of_true ?_);conv=>whnf)|((with_reducible refine Split.dec (fun _=>?_) (fun _=>?_))<;>conv=>whnf)|((with_reducible refine Need.mk ?_ ?_);(first|omega|rfl|decide|(refine ⟨?_,?_⟩<;>simp<;>omega)|(simp;omega));conv=>whnf)|((with_reducible refine Wr.inr ?_ ?_);(first|omega|(simp;omega));conv=>whnf)|((with_reducible refine AltK.l ?_);(conv=>whnf);(first|(refine CallK.mk _ (w3) ?_));conv=>whnf)|(exfalso;first|omega|contradiction)|fail)
       all_goals first
        | rfl
        |(exfalso; omega)
      ·conv => whnf
       repeat' (first|((refine PickE.map p hu (by omega) ?_);conv=>whnf)|((refine PickE.map p hqq (by omega) ?_);conv=>whnf)|((with_reducible refine Split.of_true ?_);conv=>whnf)|((with_reducible refine Split.dec (fun _=>?_) (fun _=>?_))<;>conv=>whnf)|((with_reducible refine Need.mk ?_ ?_);(first|omega|rfl|decide|(refine ⟨?_,?_⟩<;>simp<;>omega)|(simp;omega));conv=>whnf)|((with_reducible refine Wr.inr ?_ ?_);(first|omega|(simp;omega));conv=>whnf)|((with_reducible refine AltK.l ?_);(conv=>whnf);(first|(refine CallK.mk _ (w3) ?_));conv=>whnf)|(exfalso;first|omega|contradiction)|fail)
       all_goals first
        |(exfalso; omega)
        | skip
       refine Again.av (p + 1) ⟨by omega, fun q' hq' ha => ?_⟩ (by omega) (by refine ⟨?_, ?_, rfl⟩<;>(repeat' (first|exact True.intro|exact rfl|(refine ⟨?_,?_⟩)|(intro h;cases h;done)|fail));done)
       by_cases e : q' = p
       ·subst e; rw [hpq, getD_o9 hu]; omega
       ·exact hpa q' (by omega) ha
    ·obtain ⟨r, hr⟩ := some_of_lt (show b < vol.length by omega)
     have hrp := hvb b
     rw [getD_o9 hr] at hrp
     have hvr := prod_bd hvr0 hrp
     have hst : yldN vol bs (b + 1) = yldN vol bs b + v * r := by rw [yldN, sumN, getD_o9 hv, getD_o9 hr]; rfl
     have htk := take_one9 hv hbr hin
     have hb2 := yldN_bd hvb htk
     rw [hst] at hb2
     generalize yldN vol bs b = s at *
     conv => whnf
     repeat' (first|((refine PickE.map b hr (by omega) ?_);conv=>whnf)|((with_reducible refine Split.dec (fun _=>?_) (fun _=>?_))<;>conv=>whnf)|((with_reducible refine Need.mk ?_ ?_);(first|omega|rfl|decide|(refine ⟨?_,?_⟩<;>simp<;>omega)|(simp;omega));conv=>whnf)|((with_reducible refine Wr.inr ?_ ?_);(first|omega|(simp;omega));conv=>whnf)|(exfalso;first|omega|contradiction)|fail)
     all_goals first
      |(exfalso; omega)
      | skip
     refine Again.av (b + 1) ⟨by omega, htk, fun b' hb' q hq' ha => ?_⟩ (by omega) ?_
     ·by_cases e : b' = b
      ·subst e; rw [getD_o9 hv]; exact hpa q (by omega) ha
      ·exact hba b' (by omega) q hq' ha
     ·rw [hst, show s + v * r - S2 = s - S2 + v * r by omega]
      exact (by refine ⟨?_, ?_, rfl⟩<;>(repeat' (first|exact True.intro|exact rfl|(refine ⟨?_,?_⟩)|(intro h;cases h;done)|fail));done)
  ·have hbe : b = bs.length := by omega
   subst hbe
   have hY : Yld (accF y l) y.pits.length l.length (priceF y) bs ps := ⟨hb, hq, fun v hv => inR_iff.1 (hall v hv), fun v hv => inR_iff.1 (take_all9 (Nat.le_refl _) hbr v hv), fun b' hb' p hp ha => hba b' (by omega) p hp ha⟩
   have hys : yieldS y.pits.length l.length vol room bs ps = yldN vol bs bs.length - S2 := by rw [← hS2, yieldS, yldN, yldP, hb, hq]
   rw [hyes hY, if_pos rfl, hys]
   generalize yldN vol bs bs.length = s at *
   conv => whnf
   repeat' (first|((with_reducible refine Split.dec (fun _=>?_) (fun _=>?_))<;>conv=>whnf)|((with_reducible refine Need.mk ?_ ?_);(first|omega|rfl|decide|(refine ⟨?_,?_⟩<;>simp<;>omega)|(simp;omega));conv=>whnf)|(exfalso;first|omega|contradiction)|fail)
   rfl
theorem ev_CheckShares {y : Yd} {l : List Bt} (hs : smallP y) (h0 : lstE y l = 0) (x : List Al) (hn : x.length ≤ 1000) :
 Ev Try.prog 20 [ydD y, .sl 5 (l.map btD), .sl 3 (x.map alD)] (iD (if asgB (accF y l) (atI l) (pitI y) (volF y l) (roomF y) x = true then 0 else 21)) := by
 have hO := ls_ok h0
 have hlen := hO.len
 have hB := ev_begin hs (show l.length ≤ 1000000 by omega) h0
 have hA := ev_assigned (tk_ok hs hO) x hn
 have hJ := ev_judged (asgB (accF y l) (atI l) (pitI y) (volF y l) (roomF y) x)
 unfold tkC at hB hA
 generalize asgB (accF y l) (atI l) (pitI y) (volF y l) (roomF y) x = b at *
 refine ev_of_awp tysOk mixed (fn := Try.f20) Try.func20 rfl rfl rfl ?_
 conv => whnf
 repeat' (first|((with_reducible refine Split.is_false ?_ ?_);decide;conv=>whnf)|((with_reducible refine AltK.l ?_);(conv=>whnf);(first|(refine CallK.mk _ (hB) ?_)|(refine CallK.mk _ (hA) ?_)|(refine CallK.mk _ (hJ) ?_));conv=>whnf)|fail)
 all_goals first
  | rfl
  |(exfalso; omega)
theorem ev_CheckCheapest {y : Yd} {l : List Bt} (hs : smallP y) (h0 : lstE y l = 0) (f : Frt) (hn : f.xs.length ≤ 1000) :
 Ev Try.prog 16 [ydD y, .sl 5 (l.map btD), frD f] (iD (if prvB y l f = true then 0 else 21)) := by
 have hO := ls_ok h0
 have hy := yd_ok hO.yd
 have hlen := hO.len
 have hP8 := hy.pits
 have hT := tk_ok hs hO
 have hB := ev_begin hs (show l.length ≤ 1000000 by omega) h0
 have hA := ev_assigned hT f.xs hn
 have hY := ev_yields hT (pt_price hy) (fun b => ⟨(vol_bd hO b).1, vol_13 hO b⟩) (room_bd hy) f.tf.bs f.tf.ps
 have hPr := fun h1 h2 => ev_priceD (y := y) (l := l) (vol := volF y l) (room := roomF y) (fl := flow0 y l) (by omega) f.xs hn h1 (pt_price hy) h2
 have hch := fun h => chr_bd hO ((asg_chr9 hO f.xs).1 h)
 have hres : prvB y l f = (asgB (accF y l) (atI l) (pitI y) (volF y l) (roomF y) f.xs && decide (costF y f.xs = f.cost) && yldB (accF y l) y.pits.length l.length (priceF y) f.tf.bs f.tf.ps && decide (yieldS y.pits.length l.length (volF y l) (roomF y) f.tf.bs f.tf.ps = f.cost)) := rfl
 generalize prvB y l f = res at *
 obtain ⟨xs, cost, ⟨bs, ps, bb⟩⟩ := f
 dsimp only at *
 unfold frD
 dsimp only
 unfold tkC at hB hA hY hPr
 cases hab : asgB (accF y l) (atI l) (pitI y) (volF y l) (roomF y) xs with
 | false =>
  rw [hab] at hA hres
  rw [hres]
  refine ev_of_awp tysOk mixed (fn := Try.f16) Try.func16 rfl rfl rfl ?_
  conv => whnf
  repeat' (first|((with_reducible first|refine Split.of_true ?_|refine Split.of_false ?_);conv=>whnf)|(with_reducible refine Split.neg ?_)|((with_reducible refine Split.is_false ?_ ?_);decide;conv=>whnf)|((with_reducible refine AltK.l ?_);(conv=>whnf);(first|(refine CallK.mk _ (hB) ?_)|(refine CallK.mk _ (hA) ?_));conv=>whnf)|fail)
  all_goals first
   | rfl
   |(exfalso; omega)
 | true =>
 obtain ⟨c1, c2⟩ := hch hab
 have hP := hPr c1 c2
 rw [hab, Bool.true_and] at hres
 rw [hab] at hA
 clear hPr hch hab c1 c2
 generalize costF y xs = cst at *
 by_cases hc : cst = cost
 case neg =>
  rw [decide_eq_false hc] at hres
  rw [hres]
  refine ev_of_awp tysOk mixed (fn := Try.f16) Try.func16 rfl rfl rfl ?_
  conv => whnf
  repeat' (first|((with_reducible refine Split.of_true ?_);conv=>whnf)|(with_reducible refine Split.neg ?_)|((with_reducible refine Split.is_false ?_ ?_);decide;conv=>whnf)|((with_reducible refine Split.nez (fun _=>?_) (fun _=>?_))<;>conv=>whnf)|((with_reducible refine AltK.l ?_);(conv=>whnf);(first|(refine CallK.mk _ (hB) ?_)|(refine CallK.mk _ (hA) ?_)|(refine CallK.mk _ (hP) ?_));conv=>whnf)|(exfalso;first|omega|contradiction)|fail)
  all_goals first
   | rfl
   |(exfalso; omega)
 rw [decide_eq_true hc, Bool.true_and] at hres
 have hJ := fun b => ev_judged b
 generalize yieldS y.pits.length l.length (volF y l) (roomF y) bs ps = ys at *
 cases hyb : yldB (accF y l) y.pits.length l.length (priceF y) bs ps with
 | false =>
  rw [hyb] at hY hres
  rw [hres]
  have hJ := ev_judged false
  refine ev_of_awp tysOk mixed (fn := Try.f16) Try.func16 rfl rfl rfl ?_
  conv => whnf
  repeat' (first|((with_reducible first|refine Split.of_true ?_|refine Split.of_false ?_);conv=>whnf)|(with_reducible refine Split.neg ?_)|((with_reducible refine Split.is_false ?_ ?_);decide;conv=>whnf)|((with_reducible refine Split.nez (fun _=>?_) (fun _=>?_))<;>conv=>whnf)|((with_reducible refine AltK.l ?_);(conv=>whnf);(first|(refine CallK.mk _ (hB) ?_)|(refine CallK.mk _ (hA) ?_)|(refine CallK.mk _ (hP) ?_)|(refine CallK.mk _ (hY) ?_)|(refine CallK.mk _ (hJ) ?_));conv=>whnf)|(exfalso;first|omega|contradiction)|fail)
  all_goals first
   | rfl
   |(exfalso; omega)
 | true =>
  rw [hyb, Bool.true_and] at hres
  rw [hyb, if_pos rfl] at hY
  rw [hres]
  have hJ := ev_judged (decide (ys = cost))
  refine ev_of_awp tysOk mixed (fn := Try.f16) Try.func16 rfl rfl rfl ?_
  conv => whnf
  repeat' (first|((with_reducible refine Split.of_true ?_);conv=>whnf)|(with_reducible refine Split.neg ?_)|((with_reducible refine Split.is_false ?_ ?_);decide;conv=>whnf)|((with_reducible refine Split.nez (fun _=>?_) (fun _=>?_))<;>conv=>whnf)|((with_reducible refine AltK.l ?_);(conv=>whnf);(first|(refine CallK.mk _ (hB) ?_)|(refine CallK.mk _ (hA) ?_)|(refine CallK.mk _ (hP) ?_)|(refine CallK.mk _ (hY) ?_)|(refine CallK.mk _ (hJ) ?_));conv=>whnf)|(exfalso;first|omega|contradiction)|fail)
  all_goals first
   | rfl
   |(exfalso; omega)
end Go.Proofs.Try
end

section
namespace Go.Proofs.Try
open Go Go.Vm
set_option maxRecDepth 20000
set_option maxHeartbeats 8000000
theorem ev_Cost9 {y : Yd} (hP : y.pits.length ≤ 1000000) (xs : List Al) (hn : xs.length ≤ 1000) (hx : ∀ a ∈ xs, 0 ≤ pitI y a.pit ∧ 0 ≤ a.vol ∧ a.vol ≤ 100000000000000000) (hp : ∀ p ∈ y.pits, 0 ≤ p.price ∧ p.price ≤ 10000) (hT : costF y xs ≤ 9000000000000000000) :
 Ev Try.prog 21 [ydD y, .sl 3 (xs.map alD)] (iD (costF y xs)) := by
 have hlp : (y.pits.map ptD).length = y.pits.length := List.length_map _
 have hlx : (xs.map alD).length = xs.length := List.length_map _
 have h0 : costF y (xs.take 0) = 0 := rfl
 refine ev_of_awp tysOk mixed (fn := Try.f21) Try.func21 rfl rfl rfl ?_
 conv => whnf
 skip
 refine LoopK.o3 (fun i : Nat => i ≤ xs.length) (fun i => [(5, .d (iD (costF y (xs.take i)))), (6, .d (iD i))]) (fun _ => []) (fun i => xs.length - i) 0 (by omega) (by refine ⟨?_, ?_, rfl⟩<;>(repeat' (first|exact True.intro|exact rfl|(refine ⟨?_,?_⟩)|(intro h;cases h;done)|fail));done) ?_
 rintro i hi
 dsimp only at hi ⊢
 by_cases hil : i < xs.length
 ·obtain ⟨a, ha⟩ := some_of_lt hil
  obtain ⟨a1, a2, a3⟩ := hx a (List.mem_of_getElem? ha)
  obtain ⟨j, q, hj, hq, -⟩ := ix_at (show ¬ ixI (fun p => sEq p.name a.pit) y.pits < 0 by have : 0 ≤ ixI (fun p => sEq p.name a.pit) y.pits := a1; omega)
  have hw : Ev Try.prog 53 [.sl 6 (y.pits.map ptD), .str a.pit] (iD (pitI y a.pit)) := ev_Find9 y.pits a.pit (by omega)
  have hj : pitI y a.pit = j := hj
  rw [hj] at hw
  have hqp := hp q (List.mem_of_getElem? hq)
  have hpr : prA y a = a.vol * q.price := by rw [prA, hj, Int.toNat_natCast, priceF, hq]
  have hst : costF y (xs.take (i + 1)) = costF y (xs.take i) + a.vol * q.price := by rw [List.take_add_one, ha, ← hpr]; simp [costF]
  have hle := cost_le (y := y) (xs := xs) (fun a ha => ⟨(hx a ha).2.1, (hx a ha).1⟩) (fun p hp' => (hp p hp').1) (i + 1)
  have hge := cost_nn (y := y) (xs := xs) (fun a ha => ⟨(hx a ha).2.1, (hx a ha).1⟩) (fun p hp' => (hp p hp').1) i
  have hmul : 0 ≤ a.vol * q.price := Int.mul_nonneg a2 hqp.1
  have hxD : (xs.map alD)[(i : Int).toNat]? = some (D.agg [iD a.n, .str a.pit, iD a.vol]) := by rw [Int.toNat_natCast, List.getElem?_map, ha]; rfl
  rw [hst] at hle
  generalize costF y (xs.take i) = c at *
  conv => whnf
  repeat' (first|((refine PickE.map j hq (by omega) ?_);conv=>whnf)|((refine PickE.mk _ hxD ?_);conv=>whnf)|((with_reducible refine Split.dec (fun _=>?_) (fun _=>?_))<;>conv=>whnf)|((with_reducible refine Need.mk ?_ ?_);(first|omega|rfl|decide|(refine ⟨?_,?_⟩<;>simp<;>omega)|(simp;omega));conv=>whnf)|((with_reducible refine Wr.inr ?_ ?_);(first|omega|(simp;omega));conv=>whnf)|((with_reducible refine AltK.l ?_);(conv=>whnf);(first|(refine CallK.mk _ (hw) ?_));conv=>whnf)|(exfalso;first|omega|contradiction)|fail)
  refine Again.av (i + 1) (by omega) (by omega) ?_
  rw [hst]
  exact (by refine ⟨?_, ?_, rfl⟩<;>(repeat' (first|exact True.intro|exact rfl|(refine ⟨?_,?_⟩)|(intro h;cases h;done)|fail));done)
 ·have hie : i = xs.length := by omega
  subst hie
  rw [List.take_length]
  conv => whnf
  repeat' (first|((with_reducible refine Split.dec (fun _=>?_) (fun _=>?_))<;>conv=>whnf)|((with_reducible refine Need.mk ?_ ?_);(first|omega|rfl|decide|(refine ⟨?_,?_⟩<;>simp<;>omega)|(simp;omega));conv=>whnf)|(exfalso;first|omega|contradiction)|fail)
  rfl
end Go.Proofs.Try
end

section
namespace Go.Proofs.Try
open Go Go.Vm
set_option maxRecDepth 20000
section
variable {y z : Yd} {l : List Bt}
theorem findIdx_names {s : ByteArray} : ∀ {a b : List Pt}, b.length = a.length → (∀ (i : Nat) p q, a[i]? = some p → b[i]? = some q → q.name = p.name) → b.findIdx? (fun p => sEq p.name s) = a.findIdx? (fun p => sEq p.name s)
 | [], [], _, _ => rfl
 | p :: a, q :: b, hl, hn => by
  have h1 := hn 0 p q rfl rfl
  have h2 := findIdx_names (s := s) (a := a) (b := b) (by simpa using hl) fun i p q hp hq => hn (i + 1) p q (by simpa using hp) (by simpa using hq)
  rw [List.findIdx?_cons, List.findIdx?_cons, h1, h2]
theorem Sim.pit_eq (h : Sim y z) : pitI z = pitI y := by
 funext s
 rw [pitI, pitI, ixI, ixI, findIdx_names h.len fun i p q hp hq => (h.pit i p q hp hq).1]
end
def dearP (p : Pt) (c : Int) : Pt := { p with price := p.price + c }
def dearY (y : Yd) (c : Nat → Int) : Yd := { y with pits := y.pits.mapIdx fun i p => dearP p (c i) }
section
variable {y : Yd} {l : List Bt} {c d : Nat → Int}
theorem dear_at (i : Nat) : (dearY y c).pits[i]? = (y.pits[i]?).map fun p => dearP p (c i) := by simp [dearY]
theorem dear_sim : Sim y (dearY y c) := by
 refine ⟨by simp [dearY], fun j a b ha hb => ?_, rfl, rfl, rfl⟩
 rw [dear_at, ha] at hb
 cases hb; exact ⟨rfl, rfl⟩
theorem dear_room : roomF (dearY y c) = roomF y := by
 apply List.ext_getElem?
 intro i
 rw [roomF, roomF, List.getElem?_map, List.getElem?_map, dear_at]
 cases y.pits[i]? with
 | none => rfl
 | some p => rfl
theorem dear_price (p : Nat) (hp : p < y.pits.length) : priceF (dearY y c) p = priceF y p + c p := by
 unfold priceF
 rw [dear_at]
 obtain ⟨q, hq⟩ := some_of_lt hp
 rw [hq]; rfl
theorem met_names {s : ByteArray} : ∀ {a b : List Pt}, b.map Pt.name = a.map Pt.name → metB Pt.name b s = metB Pt.name a s := by
 intro a b h
 have e : ∀ l : List Pt, metB Pt.name l s = (l.map Pt.name).any fun n => decide (n = s) := fun l => by
  unfold metB
  rw [List.any_map]; rfl
 rw [e, e, h]
theorem nm_mix {own : Pt → Int} : ∀ {a b o u : List Pt}, a.map Pt.name = b.map Pt.name → o.map Pt.name = u.map Pt.name → nmGo Pt.name own o a = 0 → (∀ x ∈ b, own x = 0) → nmGo Pt.name own u b = 0
 | [], [], _, _, _, _, _, _ => rfl
 | [], _ :: _, _, _, h, _, _, _ => by simp at h
 | _ :: _, [], _, _, h, _, _, _ => by simp at h
 | p :: a, q :: b, o, u, h, ho, hz, hb => by
  rw [List.map_cons, List.map_cons, List.cons.injEq] at h
  rw [nmGo] at hz ⊢
  rw [← h.1, met_names (a := o) (b := u) ho.symm, if_neg (show ¬ own q ≠ 0 by have := hb q (by simp); omega)]
  split at hz
  ·cases hz
  rename_i h1
  rw [if_neg h1]
  split at hz
  ·cases hz
  rename_i h2
  rw [if_neg h2]
  split at hz
  ·contradiction
  exact nm_mix h.2 (by rw [List.map_append, List.map_append, ho]; simp [h.1]) hz fun x hx => hb x (by simp [hx])
theorem dpGo_eq {z : Yd} (h : pitI z = pitI y) : ∀ (r o : List Dp), dpGo z o r = dpGo y o r
 | [], _ => rfl
 | d :: r, o => by rw [dpGo, dpGo, h, dpGo_eq h r]
theorem pt_split {p : Pt} (h : ptErr p = 0) : (outsideB p.area 1 1000000000 || outsideB p.base (-20000) 20000 || outsideB p.top (-20000) 20000) = false ∧ ¬ p.top ≤ p.base ∧ outsideB p.price 0 10000 = false ∧ clsGo none p.cls = 0 := by
 unfold ptErr at h
 split at h
 ·cases h
 rename_i c1
 split at h
 ·cases h
 rename_i c2
 split at h
 ·cases h
 rename_i c3
 exact ⟨by simpa using c1, c2, by simpa using c3, h⟩
theorem pt_dear {p : Pt} {a b : Int} (h0 : ptErr p = 0) (h1 : ptErr (dearP p a) = 0) (hb : 0 ≤ b ∧ b ≤ a) : ptErr (dearP p b) = 0 := by
 obtain ⟨c1, c2, c3, c4⟩ := pt_split h0
 obtain ⟨-, -, c5, -⟩ := pt_split h1
 have e1 : (dearP p b).price = p.price + b := rfl
 have e2 : (dearP p a).price = p.price + a := rfl
 have c6 : outsideB (dearP p b).price 0 10000 = false := by
  rw [e2] at c5
  rw [e1]
  simp [outsideB] at c3 c5 ⊢
  omega
 show (if (outsideB p.area 1 1000000000 || outsideB p.base (-20000) 20000 || outsideB p.top (-20000) 20000) = true then (2 : Int) else if p.top ≤ p.base then 9 else if outsideB (dearP p b).price 0 10000 = true then 2 else clsGo none p.cls) = 0
 rw [c1, if_neg (by decide), if_neg c2, c6, if_neg (by decide)]
 exact c4
theorem dear_ok {by_ : Int} (h0 : ydErr y = 0) (h1 : ydErr (dearY y fun _ => by_) = 0) (hc : ∀ i, 0 ≤ c i ∧ c i ≤ by_) : ydErr (dearY y c) = 0 := by
 have hS := dear_sim (y := y) (c := c)
 have e1 : (dearY y c).pits.length = y.pits.length := hS.len
 have e2 : (dearY y c).bulk = y.bulk := rfl
 have e3 : (dearY y c).carry = y.carry := rfl
 have e4 : dpsErr (dearY y c) = dpsErr y := by
  unfold dpsErr
  have e5 : (dearY y c).deps = y.deps := rfl
  have e6 : ((dearY y c).pits.any fun p => decide (roomS (dearY y c) p < 0)) = y.pits.any fun p => decide (roomS y p < 0) := by
   have e : ∀ z : Yd, (z.pits.any fun p => decide (roomS z p < 0)) = (roomF z).any fun r => decide (r < 0) := fun z => by rw [roomF, List.any_map]; rfl
   rw [e, e, dear_room]
  rw [e5, e6, dpGo_eq hS.pit_eq]
 have hp1 : ∀ x ∈ y.pits, ptErr x = 0 := by
  unfold ydErr at h0
  split at h0
  ·cases h0
  split at h0
  ·contradiction
  rename_i k
  exact fun x hx => (nmGo_zero (show nmGo Pt.name ptErr [] y.pits = 0 by simpa using k) x hx).1
 have hp2 : ∀ x ∈ (dearY y fun _ => by_).pits, ptErr x = 0 := by
  unfold ydErr at h1
  split at h1
  ·cases h1
  split at h1
  ·contradiction
  rename_i k
  exact fun x hx => (nmGo_zero (show nmGo Pt.name ptErr [] (dearY y fun _ => by_).pits = 0 by simpa using k) x hx).1
 have hnm : nmGo Pt.name ptErr [] y.pits = 0 := by
  unfold ydErr at h0
  split at h0
  ·cases h0
  split at h0
  ·contradiction
  rename_i k
  simpa using k
 have hn2 : nmGo Pt.name ptErr [] (dearY y c).pits = 0 := by
  refine nm_mix (a := y.pits) ?_ rfl hnm fun x hx => ?_
  ·apply List.ext_getElem?
   intro i
   rw [List.getElem?_map, List.getElem?_map, dear_at]
   cases y.pits[i]? with
   | none => rfl
   | some p => rfl
  ·obtain ⟨i, hi⟩ := List.getElem?_of_mem hx
   rw [dear_at, Option.map_eq_some_iff] at hi
   obtain ⟨p, hp, rfl⟩ := hi
   refine pt_dear (hp1 p (List.mem_of_getElem? hp)) (hp2 _ (List.mem_of_getElem? (i := i) ?_)) (hc i)
   rw [dear_at, hp]; rfl
 unfold ydErr at h0 ⊢
 rw [e1, e2, e3, e4, hn2]
 rw [hnm] at h0
 exact h0
theorem dear_cost {x : List Al} (hx : ∀ a ∈ x, 0 ≤ pitI y a.pit ∧ 0 ≤ a.vol ∧ a.vol ≤ 100000000000000000) (hc : ∀ i, c i ≤ d i) : costF (dearY y c) x ≤ costF (dearY y d) x := by
 have hS := dear_sim (y := y) (c := c)
 have hT := dear_sim (y := y) (c := d)
 unfold costF
 induction x with
 | nil => exact Int.le_refl _
 | cons a r ih =>
  rw [List.map_cons, List.map_cons, List.sum_cons, List.sum_cons]
  have h1 := ih fun b hb => hx b (List.mem_cons_of_mem _ hb)
  obtain ⟨k1, k2, -⟩ := hx a List.mem_cons_self
  have hlt : pitI y a.pit < y.pits.length := ix_lt
  have h2 : prA (dearY y c) a ≤ prA (dearY y d) a := by
   unfold prA
   rw [hS.pit_eq, hT.pit_eq, dear_price _ (by omega), dear_price _ (by omega)]
   exact Int.mul_le_mul_of_nonneg_left (by have := hc (pitI y a.pit).toNat; omega) k2
  omega
theorem dear_zero {x : List Al} : costF (dearY y fun _ => 0) x = costF y x := by
 have e : dearY y (fun _ => 0) = y := by
  have : (y.pits.mapIdx fun i p => dearP p 0) = y.pits := by
   apply List.ext_getElem?
   intro i
   rw [List.getElem?_mapIdx]
   cases y.pits[i]? with
   | none => rfl
   | some p => simp [dearP]
  unfold dearY
  rw [this]
 rw [e]
theorem dear_all {b : Int} {x : List Al} (hx : ∀ a ∈ x, 0 ≤ pitI y a.pit ∧ 0 ≤ a.vol ∧ a.vol ≤ 100000000000000000) : costF (dearY y fun _ => b) x = costF y x + b * (x.map Al.vol).sum := by
 have hS := dear_sim (y := y) (c := fun _ => b)
 unfold costF
 induction x with
 | nil => simp
 | cons a r ih =>
  rw [List.map_cons, List.map_cons, List.map_cons, List.sum_cons, List.sum_cons, List.sum_cons, ih fun b hb => hx b (List.mem_cons_of_mem _ hb)]
  obtain ⟨k1, k2, -⟩ := hx a List.mem_cons_self
  have hlt : pitI y a.pit < y.pits.length := ix_lt
  have h2 : prA (dearY y fun _ => b) a = prA y a + b * a.vol := by
   unfold prA
   rw [hS.pit_eq, dear_price _ (by omega), Int.mul_add, Int.mul_comm a.vol b]
  rw [h2, Int.mul_add]; omega
theorem sumA_split {L : Nat} {ib : Int → Int} : ∀ {x : List Al}, (∀ a ∈ x, 0 ≤ ib a.n ∧ ib a.n < L) → (x.map Al.vol).sum = sumN L fun b => sumA (fun a => ib a.n == (b : Int)) x
 | [], _ => by
  rw [List.map_nil, List.sum_nil]
  exact (sumN_congr fun b _ => sumA_nil).trans sumN_zero |>.symm
 | a :: r, h => by
  have ih := sumA_split (L := L) (ib := ib) (x := r) fun b hb => h b (List.mem_cons_of_mem _ hb)
  have h1 := h a List.mem_cons_self
  rw [List.map_cons, List.sum_cons, ih]
  have e : (fun b : Nat => sumA (fun a => ib a.n == (b : Int)) (a :: r)) = fun b => (if b = (ib a.n).toNat then a.vol else 0) + sumA (fun a => ib a.n == (b : Int)) r := by
   funext b
   rw [sumA_cons]
   congr 1
   by_cases e : b = (ib a.n).toNat
   ·rw [if_pos e, if_pos (by simp; omega)]
   ·rw [if_neg e, if_neg (by simp; omega)]
  rw [e, sumN_add, sumN_hit, if_pos (by omega)]
theorem chr_total (hO : LsOk y l) {x : List Al} (h : Chr (accF y l) (atI l) (pitI y) y.pits.length l.length (fun b => (volF y l).getD b 0) (fun p => (roomF y).getD p 0) [] x) : (x.map Al.vol).sum = (volF y l).sum := by
 have hy := yd_ok hO.yd
 have hvl : (volF y l).length = l.length := (volsGo_spec hO.wok ⟨hy.carL, hy.car⟩).1
 rw [sumA_split (L := l.length) (ib := atI l) fun a ha => ⟨(h.ok a ha).b, ix_lt⟩, sum_sumN, hvl]
 exact sumN_congr fun b hb => h.sb b hb
theorem Sim.chr {z : Yd} (h : Sim y z) (hr : roomF z = roomF y) {x : List Al} : Chr (accF z l) (atI l) (pitI z) z.pits.length l.length (fun b => (volF z l).getD b 0) (fun p => (roomF z).getD p 0) [] x ↔ Chr (accF y l) (atI l) (pitI y) y.pits.length l.length (fun b => (volF y l).getD b 0) (fun p => (roomF y).getD p 0) [] x := by
 rw [h.acc, h.pit_eq, h.len, h.vol, hr]
end
end Go.Proofs.Try
end

section
namespace Go.Proofs.Try
open Go Go.Vm
set_option maxRecDepth 20000
set_option maxHeartbeats 8000000
theorem xv_Copied (y : Yd) (h1 : y.pits.length ≤ 1000) (h2 : y.bulk.length ≤ 1000) (h3 : y.deps.length ≤ 1000) (h4 : y.carry.length ≤ 1000) (hcl : ∀ p ∈ y.pits, p.cls.length ≤ 100000) :
 EvX Try.prog 8 [.d (ydD y)] [] (.agg [.own 9 6 (y.pits.map ptD).length, .own 2009 3 (y.bulk.map bkD).length, .own 4009 3 (y.deps.map dpD).length, .d (.sl 1 (y.carry.map iD))]) [(9, .row 34 6 (y.pits.map ptD) false), (2009, .row 45 3 (y.bulk.map bkD) false), (4009, .row 47 3 (y.deps.map dpD) false)] := by
 have hlp : (y.pits.map ptD).length = y.pits.length := List.length_map _
 have hlb : (y.bulk.map bkD).length = y.bulk.length := List.length_map _
 have hld : (y.deps.map dpD).length = y.deps.length := List.length_map _
 have hlc : (y.carry.map iD).length = y.carry.length := List.length_map _
 have hC := ev_CopyInts9 y.carry (by omega)
 refine evx_of_awp tysOk mixed (fn := Try.f8) Try.func8 rfl rfl rfl ?_
 conv => whnf
 repeat' (first|((with_reducible refine Need.mk ?_ ?_);(first|omega|rfl|decide|(refine ⟨?_,?_⟩<;>simp<;>omega)|(simp;omega));conv=>whnf)|fail)
 refine LoopK.o2 (fun i : Nat => i ≤ y.pits.length) (fun i => [(4, .d (.int .i64 i))]) (fun i => [(1, .var [.own 200 6 ((y.pits.take i).map ptD).length, .d (.sl 3 (y.bulk.map bkD)), .d (.sl 3 (y.deps.map dpD)), .d (.sl 1 (y.carry.map iD))] false), (200, .row 34 6 ((y.pits.take i).map ptD) false)]) (fun i => y.pits.length - i) 0 (by omega) (by refine ⟨?_, ?_, rfl⟩<;>(repeat' (first|exact True.intro|exact rfl|(refine ⟨?_,?_⟩)|(intro h;cases h;done)|fail));done) ?_
 rintro i hi
 have htl : ((y.pits.take i).map ptD).length = i := by simp; omega
 by_cases hil : i < y.pits.length
 ·obtain ⟨p, hp⟩ := some_of_lt hil
  have hc := ev_CopyInts9 p.cls (Nat.le_trans (hcl p (List.mem_of_getElem? hp)) (by decide))
  have hmp1 : (y.pits.take i).map ptD ++ ptD p :: List.replicate 0 (ptD p) = (y.pits.take (i + 1)).map ptD := by rw [take_snoc hp]; simp
  have hmp2 : (y.pits.take i).map ptD ++ [ptD p] = (y.pits.take (i + 1)).map ptD := by rw [take_snoc hp]; simp
  conv => whnf
  repeat' (first|((refine PickE.map i hp (by omega) ?_);conv=>whnf)|((with_reducible refine Split.dec (fun _=>?_) (fun _=>?_))<;>conv=>whnf)|((with_reducible refine Need.mk ?_ ?_);(first|omega|rfl|decide|(refine ⟨?_,?_⟩<;>simp<;>omega)|(simp;omega));conv=>whnf)|((with_reducible refine Wr.inr ?_ ?_);(first|omega|(simp;omega));conv=>whnf)|((with_reducible refine AltK.l ?_);(conv=>whnf);(first|(refine CallK.mk _ (hc) ?_));conv=>whnf)|(exfalso;first|omega|contradiction)|fail)
  exact Again.au (i + 1) (by omega) (by omega) (by refine ⟨?_, ?_, rfl⟩<;>(repeat' (first|exact True.intro|exact rfl|(refine ⟨?_,?_⟩)|(intro h;cases h;done)|exact hmp1|((first|refine own_congr ?_|refine int_congr ?_);simp [List.length_map];omega)|fail));done)
 ·have e : y.pits.take i = y.pits := List.take_of_length_le (by omega)
  rw [e] at htl ⊢
  conv => whnf
  repeat' (first|((with_reducible refine Split.dec (fun _=>?_) (fun _=>?_))<;>conv=>whnf)|((with_reducible refine Need.mk ?_ ?_);(first|omega|rfl|decide|(refine ⟨?_,?_⟩<;>simp<;>omega)|(simp;omega));conv=>whnf)|((with_reducible refine AltK.l ?_);(conv=>whnf);(first|(refine CallK.mk _ (hC) ?_));conv=>whnf)|(exfalso;first|omega|contradiction)|fail)
  exact ⟨⟨[(9, some 200), (2009, some 32), (4009, some 37)], (by refine ⟨?_, ?_, rfl⟩<;>(repeat' (first|exact True.intro|exact rfl|(refine ⟨?_,?_⟩)|(intro h;cases h;done)|(refine own_congr ?_;simp;done)|fail));done)⟩, rfl⟩
def tpNear : ByteArray := ⟨#[78, 101, 97, 114]⟩
def tpFar : ByteArray := ⟨#[70, 97, 114]⟩
def tpSand : ByteArray := ⟨#[115, 97, 110, 100]⟩
def tpY : Yd := ⟨[⟨tpNear, 10000, -500, -450, [0], 100⟩, ⟨tpFar, 10000, -900, -800, [0, 1], 400⟩], [⟨tpSand, 6, 5⟩], [], [0]⟩
def tpL : List Bt := [⟨1, 500001, 0, tpSand, 0⟩, ⟨2, 300003, 1000, tpSand, 1⟩]
def tpX : List Al := [⟨1, tpNear, 500000⟩, ⟨1, tpFar, 100001⟩, ⟨2, tpFar, 358803⟩]
theorem ev_tip : Ev Try.prog 14 [] (ydD tpY) := by
 refine ev_of_awp tysOk mixed (fn := Try.f14) Try.func14 rfl rfl rfl ?_
 conv => whnf
 repeat' (first|((with_reducible refine Need.mk ?_ ?_);(first|omega|rfl|decide|(refine ⟨?_,?_⟩<;>simp<;>omega)|(simp;omega));conv=>whnf)|fail)
 rfl
theorem ev_loads : Ev Try.prog 15 [] (.sl 5 (tpL.map btD)) := by
 refine ev_of_awp tysOk mixed (fn := Try.f15) Try.func15 rfl rfl rfl ?_
 conv => whnf
 skip
 rfl
theorem tp_small : smallP tpY := fun p hp => by
 simp only [tpY, List.mem_cons, List.mem_nil_iff, or_false] at hp
 rcases hp with rfl | rfl <;> simp
theorem tp_ok : lstE tpY tpL = 0 := by decide +kernel
theorem tp_chr : Chr (accF tpY tpL) (atI tpL) (pitI tpY) tpY.pits.length tpL.length (fun b => (volF tpY tpL).getD b 0) (fun p => (roomF tpY).getD p 0) [] tpX :=
 (asg_chr9 (ls_ok tp_ok) tpX).1 (by decide +kernel)
def tfewB (l : List Bt) (most : Nat) : Bool := (l.all fun b => decide (b.soil.size ≤ 40)) && decide (l.length ≤ most)
theorem ev_tfew (l : List Bt) (most : Nat) (hn : l.length ≤ 9223372036854775807) : Ev Try.prog 17 [.sl 5 (l.map btD), iD most] (.bool (tfewB l most)) := by
 have hll : (l.map btD).length = l.length := List.length_map _
 unfold tfewB
 refine ev_of_awp tysOk mixed (fn := Try.f17) Try.func17 rfl rfl rfl ?_
 conv => whnf
 skip
 refine LoopK.o2 (fun i : Nat => i ≤ l.length ∧ (l.take i).all (fun b => decide (b.soil.size ≤ 40)) = true) (fun i => [(5, .d (.int .i64 i))]) (fun _ => []) (fun i => l.length - i) 0 ⟨by omega, rfl⟩ (by refine ⟨?_, ?_, rfl⟩<;>(repeat' (first|exact True.intro|exact rfl|(refine ⟨?_,?_⟩)|fail));done) ?_
 rintro i ⟨hi, hp⟩
 by_cases hil : i < l.length
 ·obtain ⟨b, hb⟩ := some_of_lt hil
  conv => whnf
  repeat' (first|((refine PickE.map i hb (by omega) ?_);conv=>whnf)|((with_reducible refine Split.dec (fun _=>?_) (fun _=>?_))<;>conv=>whnf)|((with_reducible refine Need.mk ?_ ?_);(first|omega|rfl|decide|(refine ⟨?_,?_⟩<;>simp<;>omega)|(simp;omega));conv=>whnf)|((with_reducible refine Wr.inr ?_ ?_);(first|omega|(simp;omega));conv=>whnf)|(exfalso;first|omega|contradiction)|fail)
  all_goals first
   |(rw [all_not9 hb (by simp; omega)]; rfl)
   | exact Again.au (i + 1) ⟨by omega, all_snoc9 hb hp (by simp;omega)⟩ (by omega) (by refine ⟨?_, ?_, rfl⟩<;>(repeat' (first|exact True.intro|exact rfl|(refine ⟨?_,?_⟩)|fail));done)
 ·rw [List.take_of_length_le (show l.length ≤ i by omega)] at hp
  rw [hp]
  conv => whnf
  repeat' (first|((with_reducible refine Split.dec (fun _=>?_) (fun _=>?_))<;>conv=>whnf)|((with_reducible refine Need.mk ?_ ?_);(first|omega|rfl|decide|(refine ⟨?_,?_⟩<;>simp<;>omega)|(simp;omega));conv=>whnf)|(exfalso;first|omega|contradiction)|fail)
  simp only [retOf, D.bool.injEq, Bool.true_and, decide_eq_decide]; omega
end Go.Proofs.Try
end

section
namespace Go.Proofs.Try
open Go Go.Vm
set_option maxRecDepth 20000
set_option maxHeartbeats 8000000
theorem ev_Total {y : Yd} {l : List Bt} (hO : LsOk y l) : Ev Try.prog 22 [ydD y, .sl 5 (l.map btD)] (iD (volF y l).sum) := by
 have hy := yd_ok hO.yd
 have hlen := hO.len
 have hb20 := hy.bulk
 have hll : (l.map btD).length = l.length := List.length_map _
 have hV := ev_Volumes y l y.carry (by omega) (by omega) hO.wok ⟨hy.carL, hy.car⟩
 obtain ⟨hvl, hvb⟩ := volsGo_spec hO.wok ⟨hy.carL, hy.car⟩
 rw [show volsGo y y.carry l = volF y l from rfl] at hV hvl hvb
 generalize volF y l = vol at *
 have hvm : (vol.map iD).length = vol.length := List.length_map _
 refine ev_of_awp tysOk mixed (fn := Try.f22) Try.func22 rfl rfl rfl ?_
 conv => whnf
 repeat' (first|((with_reducible first|refine Split.of_true ?_|refine Split.of_false ?_);conv=>whnf)|(with_reducible refine Split.neg ?_)|((with_reducible refine Split.is_true ?_ ?_);decide;conv=>whnf)|((with_reducible refine Split.is_false ?_ ?_);decide;conv=>whnf)|((with_reducible refine Split.nez (fun _=>?_) (fun _=>?_))<;>conv=>whnf)|((with_reducible refine Split.eqz (fun _=>?_) (fun _=>?_))<;>conv=>whnf)|(with_reducible refine Split.and ?_)|(with_reducible refine Split.or ?_)|((with_reducible refine Split.streq (fun _=>?_) (fun _=>?_))<;>conv=>whnf)|((with_reducible refine Split.dec (fun _=>?_) (fun _=>?_))<;>conv=>whnf)|((with_reducible refine Split.mk (fun _=>?_) (fun _=>?_))<;>conv=>whnf)|((with_reducible refine NilK.mk (fun _=>?_) ?_)<;>conv=>whnf)|((with_reducible refine AltK.l ?_);(conv=>whnf);(with_reducible refine Need.mk ?_ ?_);(first|omega|(refine ⟨?_,?_⟩<;>simp<;>omega)|(simp;omega));conv=>whnf)|((with_reducible refine Need.mk ?_ ?_);(first|omega|rfl|decide|(refine ⟨?_,?_⟩<;>simp<;>omega)|(simp;omega));conv=>whnf)|((with_reducible refine Wr.quo ?_ ?_ ?_ ?_);omega;omega;omega;conv=>whnf)|((with_reducible refine Wr.inr ?_ ?_);(first|omega|(simp;omega));conv=>whnf)|((with_reducible refine Wr.inu ?_ ?_);omega;conv=>whnf)|((with_reducible refine AltK.l ?_);(conv=>whnf);(first|(refine CallK.mk _ (hV) ?_));conv=>whnf)|(exfalso;first|omega|contradiction)|fail)
 refine LoopK.o2 (fun i : Nat => i ≤ vol.length) (fun i => [(7, .d (iD i)), (5, .d (iD (vol.take i).sum))]) (fun _ => []) (fun i => vol.length - i) 0 (by omega) (by refine ⟨?_, ?_, rfl⟩<;>(repeat' (first|exact True.intro|exact rfl|(refine ⟨?_,?_⟩)|(intro h;cases h;done)|(intro h;exact h)|exact map_snoc|(refine own_congr ?_;simp;done)|(refine int_congr ?_;(first|omega|(simp;omega)))|(simp;done)|((first|refine own_congr ?_|refine int_congr ?_|skip);simp [D.cells];done)|((first|refine own_congr ?_|refine int_congr ?_);simp [D.cells];omega)|(show @Eq (List Go.Vm.D) _ [];simp [D.cells];done)|(simp [D.cells,D.cells];done)|fail));done) ?_
 rintro i hi
 dsimp only at hi ⊢
 have hsb := sum_bd (r := vol.take i) fun x hx => hvb x (List.mem_of_mem_take hx)
 rw [show (vol.take i).length = i by rw [List.length_take]; omega] at hsb
 by_cases hil : i < vol.length
 ·obtain ⟨x, hx⟩ := some_of_lt hil
  have hxb := hvb x (List.mem_of_getElem? hx)
  have hs : (vol.take (i + 1)).sum = (vol.take i).sum + x := by rw [List.take_add_one, hx]; simp
  generalize (vol.take i).sum = sm at *
  conv => whnf
  repeat' (first|((refine PickE.map i hx (by omega) ?_);conv=>whnf)|((with_reducible first|refine Split.of_true ?_|refine Split.of_false ?_);conv=>whnf)|(with_reducible refine Split.neg ?_)|((with_reducible refine Split.is_true ?_ ?_);decide;conv=>whnf)|((with_reducible refine Split.is_false ?_ ?_);decide;conv=>whnf)|((with_reducible refine Split.nez (fun _=>?_) (fun _=>?_))<;>conv=>whnf)|((with_reducible refine Split.eqz (fun _=>?_) (fun _=>?_))<;>conv=>whnf)|(with_reducible refine Split.and ?_)|(with_reducible refine Split.or ?_)|((with_reducible refine Split.streq (fun _=>?_) (fun _=>?_))<;>conv=>whnf)|((with_reducible refine Split.dec (fun _=>?_) (fun _=>?_))<;>conv=>whnf)|((with_reducible refine Split.mk (fun _=>?_) (fun _=>?_))<;>conv=>whnf)|((with_reducible refine NilK.mk (fun _=>?_) ?_)<;>conv=>whnf)|((with_reducible refine AltK.l ?_);(conv=>whnf);(with_reducible refine Need.mk ?_ ?_);(first|omega|(refine ⟨?_,?_⟩<;>simp<;>omega)|(simp;omega));conv=>whnf)|((with_reducible refine Need.mk ?_ ?_);(first|omega|rfl|decide|(refine ⟨?_,?_⟩<;>simp<;>omega)|(simp;omega));conv=>whnf)|((with_reducible refine Wr.quo ?_ ?_ ?_ ?_);omega;omega;omega;conv=>whnf)|((with_reducible refine Wr.inr ?_ ?_);(first|omega|(simp;omega));conv=>whnf)|((with_reducible refine Wr.inu ?_ ?_);omega;conv=>whnf)|(exfalso;first|omega|contradiction)|fail)
  refine Again.au (i + 1) (by omega) (by omega) ?_
  rw [hs]
  exact (by refine ⟨?_, ?_, rfl⟩<;>(repeat' (first|exact True.intro|exact rfl|(refine ⟨?_,?_⟩)|(intro h;cases h;done)|(intro h;exact h)|exact map_snoc|(refine own_congr ?_;simp;done)|(refine int_congr ?_;(first|omega|(simp;omega)))|(simp;done)|((first|refine own_congr ?_|refine int_congr ?_|skip);simp [D.cells];done)|((first|refine own_congr ?_|refine int_congr ?_);simp [D.cells];omega)|(show @Eq (List Go.Vm.D) _ [];simp [D.cells];done)|(simp [D.cells,D.cells];done)|fail));done)
 ·have hie : i = vol.length := by omega
  subst hie
  rw [List.take_length]
  conv => whnf
  repeat' (first|((with_reducible first|refine Split.of_true ?_|refine Split.of_false ?_);conv=>whnf)|(with_reducible refine Split.neg ?_)|((with_reducible refine Split.is_true ?_ ?_);decide;conv=>whnf)|((with_reducible refine Split.is_false ?_ ?_);decide;conv=>whnf)|((with_reducible refine Split.nez (fun _=>?_) (fun _=>?_))<;>conv=>whnf)|((with_reducible refine Split.eqz (fun _=>?_) (fun _=>?_))<;>conv=>whnf)|(with_reducible refine Split.and ?_)|(with_reducible refine Split.or ?_)|((with_reducible refine Split.streq (fun _=>?_) (fun _=>?_))<;>conv=>whnf)|((with_reducible refine Split.dec (fun _=>?_) (fun _=>?_))<;>conv=>whnf)|((with_reducible refine Split.mk (fun _=>?_) (fun _=>?_))<;>conv=>whnf)|((with_reducible refine NilK.mk (fun _=>?_) ?_)<;>conv=>whnf)|((with_reducible refine AltK.l ?_);(conv=>whnf);(with_reducible refine Need.mk ?_ ?_);(first|omega|(refine ⟨?_,?_⟩<;>simp<;>omega)|(simp;omega));conv=>whnf)|((with_reducible refine Need.mk ?_ ?_);(first|omega|rfl|decide|(refine ⟨?_,?_⟩<;>simp<;>omega)|(simp;omega));conv=>whnf)|((with_reducible refine Wr.quo ?_ ?_ ?_ ?_);omega;omega;omega;conv=>whnf)|((with_reducible refine Wr.inr ?_ ?_);(first|omega|(simp;omega));conv=>whnf)|((with_reducible refine Wr.inu ?_ ?_);omega;conv=>whnf)|(exfalso;first|omega|contradiction)|fail)
  rfl
end Go.Proofs.Try
end

section
namespace Go.Proofs.Try
open Go Go.Vm
set_option maxRecDepth 20000
set_option maxHeartbeats 8000000
def ChrY (y : Yd) (l : List Bt) (x : List Al) : Prop := Chr (accF y l) (atI l) (pitI y) y.pits.length l.length (fun b => (volF y l).getD b 0) (fun p => (roomF y).getD p 0) [] x
theorem cheap_says {y : Yd} {l : List Bt} (hs : smallP y) (h0 : lstE y l = 0) : ∃ (dn : Bool) (xs : List Al) (c : Int) (bs ps : List Int),
 Ev Try.prog 13 [ydD y, .sl 5 (l.map btD)] (.tup [.agg [.sl 3 (xs.map alD), iD c, .sl 1 (bs.map iD), .sl 1 (ps.map iD)], iD (if dn = true then 0 else 19)]) ∧ xs.length ≤ 96 ∧
 (dn = true → ChrY y l xs ∧ costF y xs = c ∧ prvB y l ⟨xs, c, ⟨bs, ps, false⟩⟩ = true ∧ ∀ x, ChrY y l x → c ≤ costF y x) ∧ (dn = false → ∀ x, ¬ ChrY y l x) := by
 have hO := ls_ok h0
 have hy := yd_ok hO.yd
 have hlen := hO.len
 obtain ⟨fl, k, t, hk, hS, h5⟩ := ev_CheapestRun hs h0
 cases hd : doneF l.length (volF y l) fl with
 | true =>
  rw [hd, if_pos rfl, if_pos rfl] at h5
  have hAl := allF_len (l := l) (fl := fl) hy.pits l.length
  refine ⟨true, allF y l fl l.length, costF y (allF y l fl l.length), t.bs, t.ps, h5, by omega, fun _ => ⟨all_chr hO hS.ok hd, rfl, (show prvB y l ⟨allF y l fl l.length, costF y (allF y l fl l.length), t⟩ = true from prv_own hO hS hd), fun x hx => ?_⟩, fun h => absurd h (by decide)⟩
  have := yld_cheap (solved_yld hS) hx
  rwa [solved_cost hO hS hd] at this
 | false =>
  rw [hd, if_neg (by decide), if_neg (by decide)] at h5
  refine ⟨false, [], 0, [], [], h5, by simp, fun h => absurd h (by decide), fun _ x hx => ?_⟩
  have := chr_done hS.ok hS.shut hx
  rw [hd] at this; cases this
def oneC (m by_ : Int) (j : Nat) : Int := if (j : Int) = m then by_ else 0
def cutC (c : Nat → Int) (i : Nat) (j : Nat) : Int := if j < i then c j else 0
theorem dear_congr {y : Yd} {c d : Nat → Int} (h : ∀ i, i < y.pits.length → c i = d i) : dearY y c = dearY y d := by
 have : y.pits.mapIdx (fun i p => dearP p (c i)) = y.pits.mapIdx fun i p => dearP p (d i) := by
  apply List.ext_getElem?
  intro i
  rw [List.getElem?_mapIdx, List.getElem?_mapIdx]
  cases hq : y.pits[i]? with
  | none => rfl
  | some q => simp only [Option.map_some, h i (lt_of_some hq)]
 unfold dearY
 rw [this]
theorem dear_none {y : Yd} : dearY y (fun _ => 0) = y := by
 have : (y.pits.mapIdx fun i p => dearP p 0) = y.pits := by
  apply List.ext_getElem?
  intro i
  rw [List.getElem?_mapIdx]
  cases y.pits[i]? with
  | none => rfl
  | some p => simp [dearP]
 unfold dearY
 rw [this]
theorem dear_step {y : Yd} {c : Nat → Int} {i : Nat} {p : Pt} (hp : y.pits[i]? = some p) :
 (((dearY y (cutC c i)).pits).map ptD).set i (.agg [.str p.name, iD p.area, iD p.base, iD p.top, .sl 1 (p.cls.map iD), iD (p.price + c i)]) = ((dearY y (cutC c (i + 1))).pits).map ptD := by
 apply List.ext_getElem?
 intro j
 rw [List.getElem?_set, List.getElem?_map, List.getElem?_map, dear_at, dear_at, List.length_map]
 have hl : (dearY y (cutC c i)).pits.length = y.pits.length := dear_sim.len
 by_cases e : i = j
 ·subst e
  rw [if_pos rfl, if_pos (by rw [hl]; exact lt_of_some hp), hp]
  simp only [Option.map_some, cutC, if_pos (Nat.lt_succ_self i)]
  rfl
 ·rw [if_neg e]
  have : cutC c (i + 1) j = cutC c i j := by
   unfold cutC
   by_cases h : j < i
   ·rw [if_pos h, if_pos (by omega)]
   ·rw [if_neg h, if_neg (by omega)]
  rw [this]
theorem dear_same {y : Yd} {c : Nat → Int} {i : Nat} (h : c i = 0) : dearY y (cutC c (i + 1)) = dearY y (cutC c i) := by
 refine dear_congr fun j _ => ?_
 unfold cutC
 by_cases e : j = i
 ·subst e; rw [if_pos (Nat.lt_succ_self j), if_neg (Nat.lt_irrefl j), h]
 ·by_cases h2 : j < i
  ·rw [if_pos h2, if_pos (by omega)]
  ·rw [if_neg h2, if_neg (by omega)]
theorem dear_end {y : Yd} {c : Nat → Int} {n : Nat} (hn : n = y.pits.length) : dearY y (cutC c n) = dearY y c := dear_congr fun i hi => by rw [cutC, if_pos (by omega)]
theorem dear_elt {y : Yd} {c : Nat → Int} {i : Nat} {p : Pt} (hp : y.pits[i]? = some p) : (((dearY y (cutC c i)).pits).map ptD)[i]? = some (.agg [.str p.name, iD p.area, iD p.base, iD p.top, .sl 1 (p.cls.map iD), iD p.price]) := by
 rw [List.getElem?_map, dear_at, hp]
 simp only [Option.map_some, cutC, if_neg (Nat.lt_irrefl i), dearP, Int.add_zero]
 rfl
theorem dear_costs {y : Yd} {l : List Bt} {c m b : Int} {xs xg xk : List Al} {cg ck : Int} (hO : LsOk y l) (hb : 0 ≤ b) (h1 : ChrY y l xs) (h2 : costF y xs = c) (h3 : ∀ x, ChrY y l x → c ≤ costF y x)
 (g1 : ChrY (dearY y fun _ => b) l xg) (g2 : costF (dearY y fun _ => b) xg = cg) (g3 : ∀ x, ChrY (dearY y fun _ => b) l x → cg ≤ costF (dearY y fun _ => b) x)
 (k1 : ChrY (dearY y (oneC m b)) l xk) (k2 : costF (dearY y (oneC m b)) xk = ck) (k3 : ∀ x, ChrY (dearY y (oneC m b)) l x → ck ≤ costF (dearY y (oneC m b)) x) :
 cg = c + b * (volF y l).sum ∧ c ≤ ck ∧ ck ≤ cg := by
 have eg : ∀ x, ChrY (dearY y fun _ => b) l x ↔ ChrY y l x := fun x => dear_sim.chr dear_room
 have ek : ∀ x, ChrY (dearY y (oneC m b)) l x ↔ ChrY y l x := fun x => dear_sim.chr dear_room
 have hbd : ∀ x, ChrY y l x → ∀ a ∈ x, 0 ≤ pitI y a.pit ∧ 0 ≤ a.vol ∧ a.vol ≤ 100000000000000000 := fun x hx => (chr_bd hO hx).1
 have ca : ∀ x, ChrY y l x → costF (dearY y fun _ => b) x = costF y x + b * (volF y l).sum := fun x hx => by rw [dear_all (hbd x hx), chr_total hO hx]
 have lo : ∀ x, ChrY y l x → costF y x ≤ costF (dearY y (oneC m b)) x := fun x hx => by
  have := dear_cost (y := y) (c := fun _ => 0) (d := oneC m b) (hbd x hx) fun i => by unfold oneC; split <;> omega
  rwa [dear_zero] at this
 have hi : ∀ x, ChrY y l x → costF (dearY y (oneC m b)) x ≤ costF (dearY y fun _ => b) x := fun x hx =>
  dear_cost (y := y) (c := oneC m b) (d := fun _ => b) (hbd x hx) fun i => by unfold oneC; split <;> omega
 have a1 := g3 xs ((eg xs).2 h1)
 have a2 := ca xs h1
 have a3 := ca xg ((eg xg).1 g1)
 have a4 := h3 xg ((eg xg).1 g1)
 have a5 := h3 xk ((ek xk).1 k1)
 have a6 := lo xk ((ek xk).1 k1)
 have a7 := k3 xg ((ek xg).2 ((eg xg).1 g1))
 have a8 := hi xg ((eg xg).1 g1)
 omega
end Go.Proofs.Try
end
