/- Texts DrF DrH DrM DsB DrO DsI DsC DsK DtA DtB DtC TwZ DqZ DsP DtE DtF, joined; what is not needed is left out. -/
import Derived.Test.YtocplkidmjejbaaMgI
import Derived.Test.YtocplkidmjejbaaProg
import Derived.Test.YtocplkidmjejbaaMgH
import Derived.Shelf.Lays
import Derived.Test.YtocplkidmjejbaaMgJ
import Derived.Test.YtocplkidmjejbaaMpa
section
namespace Go.Proofs.Try
open Go Go.Vm
set_option maxRecDepth 20000
theorem pitI_name {y : Yd} (h : ydErr y = 0) {p : Nat} (hp : p < y.pits.length) : pitI y (nameF y p) = p := by
 obtain ⟨q, hq⟩ := some_of_lt hp
 have e : nameF y p = q.name := by rw [nameF, hq]
 rw [e]
 exact pitI_self h hq
theorem mem_allF {y : Yd} {l : List Bt} {fl : List (List Int)} {a : Al} : ∀ {i : Nat}, a ∈ allF y l fl i → ∃ b p, b < i ∧ p < y.pits.length ∧ 0 < cellZ fl b p ∧ a = ⟨numF l b, nameF y p, cellZ fl b p⟩ := by
 intro i h
 rw [allF, List.mem_flatMap] at h
 obtain ⟨b, hb, h⟩ := h
 rw [rowA, List.mem_filterMap] at h
 obtain ⟨p, hp, h⟩ := h
 rw [cellA] at h
 split at h
 ·rename_i hc
  cases h
  exact ⟨b, p, List.mem_range.1 hb, List.mem_range.1 hp, hc, rfl⟩
 ·cases h
end Go.Proofs.Try
end

section
namespace Go.Proofs.Try
open Go Go.Vm
set_option maxRecDepth 20000
section
variable {acc : Nat → Nat → Bool} {P L : Nat} {vol room : List Int} {pr : Nat → Int} {fl : List (List Int)}
def costS (P L : Nat) (pr : Nat → Int) (fl : List (List Int)) : Int := sumN L fun b => sumN P fun p => cellZ fl b p * pr p
end
end Go.Proofs.Try
end

section
namespace Go.Proofs.Try
open Go Go.Vm
set_option maxRecDepth 20000
theorem atI_ok {l : List Bt} : IxOk (atI l) l.length := ⟨fun n => ix_lt, fun n m h0 he => by
 obtain ⟨i, r, h1, h2, h3⟩ := ix_at (p := fun b : Bt => b.n == n) (l := l) (show ¬ atI l n < 0 by omega)
 obtain ⟨j, s, k1, k2, k3⟩ := ix_at (p := fun b : Bt => b.n == m) (l := l) (show ¬ atI l m < 0 by omega)
 have e1 : atI l n = i := h1
 have e2 : atI l m = j := k1
 have : i = j := by omega
 subst this
 rw [h2] at k2
 cases k2
 exact (eq_of_beq h3).symm.trans (eq_of_beq k3)⟩
theorem pitI_lt {y : Yd} (s : ByteArray) : pitI y s < y.pits.length := ix_lt
theorem atI_self {y : Yd} {l : List Bt} (h : LsOk y l) {j : Nat} (hj : j < l.length) : atI l (numF l j) = j := by
 obtain ⟨x, hx⟩ := some_of_lt hj
 have en : numF l j = x.n := by rw [numF, hx]
 have e : l.findIdx? (fun b => b.n == x.n) = some j := by
  obtain ⟨hj', he⟩ := List.getElem?_eq_some_iff.1 hx
  rw [List.findIdx?_eq_some_iff_getElem]
  refine ⟨hj', by rw [he]; simp, fun i hi => ?_⟩
  have := List.pairwise_iff_getElem.1 h.dist i j (by omega) hj' hi
  rw [he] at this
  simpa using this
 rw [en, atI, ixI, e]
section
variable {acc : Nat → Nat → Bool} {P L : Nat} {vol room : List Int} {pr : Nat → Int} {ib : Int → Int} {ip : ByteArray → Int}
theorem costS_add {fl : List (List Int)} (hd : Dim P L fl) {b p : Nat} {a : Int} (hb : b < L) (hp : p < P) : costS P L pr (addF fl b p a) = costS P L pr fl + a * pr p := by
 unfold costS
 have e : ∀ b', sumN P (fun q => cellZ (addF fl b p a) b' q * pr q) = sumN P (fun q => cellZ fl b' q * pr q) + if b' = b then a * pr p else 0 := fun b' => by
  have : (fun q => cellZ (addF fl b p a) b' q * pr q) = fun q => cellZ fl b' q * pr q + if q = p then (if b' = b then a * pr p else 0) else 0 := by
   funext q
   rw [cell_add hd hb hp, Int.add_mul]
   congr 1
   by_cases e1 : q = p
   ·subst e1
    by_cases e2 : b' = b
    ·subst e2; simp
    ·rw [if_neg (fun h => e2 h.1.symm), if_pos rfl, if_neg e2]; simp
   ·rw [if_neg (fun h => e1 h.2.symm), if_neg e1]; simp
  rw [this, sumN_add, sumN_hit, if_pos hp]
 simp only [e]
 rw [sumN_add, sumN_hit, if_pos hb]
def flA (ib : Int → Int) (ip : ByteArray → Int) (x : List Al) (fl : List (List Int)) : List (List Int) := x.foldl (fun f a => addF f (ib a.n).toNat (ip a.pit).toNat a.vol) fl
def costL (ip : ByteArray → Int) (pr : Nat → Int) (x : List Al) : Int := (x.map fun a => a.vol * pr (ip a.pit).toNat).sum
theorem flA_ok (hib : ∀ n, ib n < L) (hip : ∀ s, ip s < P) : ∀ {x : List Al} {fl : List (List Int)}, (∀ a ∈ x, Vld acc ib ip a) → Dim P L fl → (∀ b p, 0 ≤ cellZ fl b p) → (∀ b p, 0 < cellZ fl b p → acc p b = true) →
 Dim P L (flA ib ip x fl) ∧ (∀ b p, 0 ≤ cellZ (flA ib ip x fl) b p) ∧ (∀ b p, 0 < cellZ (flA ib ip x fl) b p → acc p b = true) ∧
  (∀ b, leftF vol (flA ib ip x fl) b = leftF vol fl b - sumA (fun a => ib a.n == (b : Int)) x) ∧ (∀ p, freeF room (flA ib ip x fl) p = freeF room fl p - sumA (fun a => ip a.pit == (p : Int)) x) ∧
  costS P L pr (flA ib ip x fl) = costS P L pr fl + costL ip pr x
 | [], fl, _, hd, hn, ha => ⟨hd, hn, ha, fun b => by rw [sumA_nil]; simp [flA], fun p => by rw [sumA_nil]; simp [flA], by simp [flA, costL]⟩
 | a :: r, fl, hx, hd, hn, ha => by
  have hv := hx a (by simp)
  have k1 := hv.b
  have k2 := hv.p
  have k3 := hv.v
  have hb : (ib a.n).toNat < L := by have := hib a.n; omega
  have hp : (ip a.pit).toNat < P := by have := hip a.pit; omega
  obtain ⟨i1, i2, i3, i4, i5, i6⟩ := flA_ok hib hip (x := r) (fl := addF fl (ib a.n).toNat (ip a.pit).toNat a.vol) (fun c hc => hx c (List.mem_cons_of_mem _ hc)) (hd.add _ _ _) (fun b p => by
   rw [cell_add hd hb hp]; have := hn b p; split <;> omega) (fun b p h => by
   rw [cell_add hd hb hp] at h
   by_cases e : (ib a.n).toNat = b ∧ (ip a.pit).toNat = p
   ·rw [← e.1, ← e.2]; exact hv.ac
   ·rw [if_neg e] at h; exact ha b p (by omega))
  refine ⟨i1, i2, i3, fun b => ?_, fun p => ?_, ?_⟩
  ·have := i4 b
   rw [left_add hd hb hp] at this
   rw [sumA_cons]
   show leftF vol (flA ib ip r _) b = _
   rw [this]
   by_cases e : (ib a.n).toNat = b
   ·rw [if_pos e, if_pos (by simp; omega)]; omega
   ·rw [if_neg e, if_neg (by simp; omega)]; omega
  ·have := i5 p
   rw [free_add hd hb hp] at this
   rw [sumA_cons]
   show freeF room (flA ib ip r _) p = _
   rw [this]
   by_cases e : (ip a.pit).toNat = p
   ·rw [if_pos e, if_pos (by simp; omega)]; omega
   ·rw [if_neg e, if_neg (by simp; omega)]; omega
  ·show costS P L pr (flA ib ip r _) = _
   rw [i6, costS_add hd hb hp]
   simp only [costL, List.map_cons, List.sum_cons]
   omega
end
theorem chr_flow {y : Yd} {l : List Bt} {x : List Al} (hc : Chr (accF y l) (atI l) (pitI y) y.pits.length l.length (fun b => (volF y l).getD b 0) (fun p => (roomF y).getD p 0) [] x) :
 ∃ fl, FlOk (accF y l) y.pits.length l.length (volF y l) (roomF y) fl ∧ (∀ b, b < l.length → leftF (volF y l) fl b = 0) ∧ costS y.pits.length l.length (priceF y) fl = costF y x := by
 obtain ⟨h1, h2, h3, h4, h5, h6⟩ := flA_ok (acc := accF y l) (P := y.pits.length) (L := l.length) (vol := volF y l) (room := roomF y) (pr := priceF y) atI_ok.lt (fun s => pitI_lt s) (x := x) (fl := flow0 y l) hc.ok dim_flow0 (fun b p => by rw [cell_flow0]; exact Int.le_refl _) (fun b p h => by rw [cell_flow0] at h; exact absurd h (by decide))
 have h7 : ∀ b, b < l.length → leftF (volF y l) (flA (atI l) (pitI y) x (flow0 y l)) b = 0 := fun b hb => by
  rw [h4, left_flow0 hb, hc.sb b hb]; omega
 refine ⟨_, ⟨h1, h2, h3, fun b hb => by rw [h7 b hb]; exact Int.le_refl _, fun p hp => ?_⟩, h7, ?_⟩
 ·have := hc.sp p hp
  rw [h5, free_flow0]; omega
 ·rw [h6]
  have : costS y.pits.length l.length (priceF y) (flow0 y l) = 0 := (sumN_congr fun b _ => (sumN_congr fun p _ => by rw [cell_flow0, Int.zero_mul]).trans sumN_zero).trans sumN_zero
  rw [this, Int.zero_add]; rfl
/-! What flows is accepted, in order. -/
def lexL (a b : Int × Int) : Prop := a.1 < b.1 ∨ a.1 = b.1 ∧ a.2 < b.2
def prL (y : Yd) (l : List Bt) (a : Al) : Int × Int := (atI l a.n, pitI y a.pit)
section
variable {y : Yd} {l : List Bt} {fl : List (List Int)}
theorem mem_rowA {a : Al} {b : Nat} : ∀ {k : Nat}, a ∈ rowA y l fl b k → ∃ p, p < k ∧ 0 < cellZ fl b p ∧ a = ⟨numF l b, nameF y p, cellZ fl b p⟩ := by
 intro k h
 rw [rowA, List.mem_filterMap] at h
 obtain ⟨p, hp, h⟩ := h
 rw [cellA] at h
 split at h
 ·rename_i hc
  cases h
  exact ⟨p, List.mem_range.1 hp, hc, rfl⟩
 ·cases h
theorem prL_of (h : LsOk y l) {b p : Nat} {v : Int} (hb : b < l.length) (hp : p < y.pits.length) : prL y l ⟨numF l b, nameF y p, v⟩ = ((b : Int), (p : Int)) := by
 rw [prL]; dsimp only
 rw [atI_self h hb, pitI_name h.yd hp]
theorem row_lex (h : LsOk y l) {b : Nat} (hb : b < l.length) : ∀ k, k ≤ y.pits.length → (rowA y l fl b k).Pairwise fun a c => lexL (prL y l a) (prL y l c)
 | 0, _ => by simp [rowA]
 | k + 1, hk => by
  rw [rowA_succ, List.pairwise_append]
  refine ⟨row_lex h hb k (by omega), by split <;> simp, fun a ha c hc => ?_⟩
  obtain ⟨p, hp, -, rfl⟩ := mem_rowA ha
  split at hc
  ·rw [List.mem_singleton.1 hc, prL_of h hb (by omega), prL_of h hb (by omega)]
   exact .inr ⟨rfl, by dsimp only; omega⟩
  ·cases hc
theorem all_lex (h : LsOk y l) : ∀ i, i ≤ l.length → (allF y l fl i).Pairwise fun a c => lexL (prL y l a) (prL y l c)
 | 0, _ => by simp [allF]
 | i + 1, hi => by
  rw [allF_succ, List.pairwise_append]
  refine ⟨all_lex h i (by omega), row_lex h (by omega) _ (Nat.le_refl _), fun a ha c hc => ?_⟩
  obtain ⟨b, p, hb, hp, -, rfl⟩ := mem_allF ha
  obtain ⟨q, hq, -, rfl⟩ := mem_rowA hc
  rw [prL_of h (by omega) hp, prL_of h (by omega) hq]
  exact .inl (by dsimp only; omega)
theorem sumA_app {q : Al → Bool} {x z : List Al} : sumA q (x ++ z) = sumA q x + sumA q z := by simp [sumA]
theorem row_sb (h : LsOk y l) (hn : ∀ b p, 0 ≤ cellZ fl b p) {i b : Nat} (hi : i < l.length) : ∀ k, k ≤ y.pits.length → sumA (fun a => atI l a.n == (b : Int)) (rowA y l fl i k) = if i = b then sumN k (cellZ fl i) else 0
 | 0, _ => by simp [rowA, sumA, sumN]
 | k + 1, hk => by
  rw [rowA_succ, sumA_app, row_sb h hn hi k (by omega), sumN]
  have := hn i k
  by_cases hc : 0 < cellZ fl i k
  ·rw [if_pos hc, sumA_cons, sumA_nil]
   dsimp only
   rw [atI_self h hi]
   by_cases e : i = b
   ·subst e; simp
   ·rw [if_neg e, if_neg e, if_neg (by simp; omega)]; rfl
  ·rw [if_neg hc, sumA_nil, show cellZ fl i k = 0 by omega]
   split <;> simp
theorem row_sp (h : LsOk y l) (hn : ∀ b p, 0 ≤ cellZ fl b p) {i p : Nat} : ∀ k, k ≤ y.pits.length → sumA (fun a => pitI y a.pit == (p : Int)) (rowA y l fl i k) = if p < k then cellZ fl i p else 0
 | 0, _ => by simp [rowA, sumA]
 | k + 1, hk => by
  rw [rowA_succ, sumA_app, row_sp h hn k (by omega)]
  have := hn i k
  by_cases hc : 0 < cellZ fl i k
  ·rw [if_pos hc, sumA_cons, sumA_nil]
   dsimp only
   rw [pitI_name h.yd (show k < y.pits.length by omega)]
   by_cases e : k = p
   ·subst e; simp
   ·rw [if_neg (show ¬ ((k : Int) == (p : Int)) = true by simp; omega)]
    by_cases e2 : p < k
    ·rw [if_pos e2, if_pos (by omega)]; omega
    ·rw [if_neg e2, if_neg (by omega)]; rfl
  ·rw [if_neg hc, sumA_nil]
   by_cases e : k = p
   ·subst e; rw [if_neg (by omega), if_pos (by omega)]; omega
   ·by_cases e2 : p < k
    ·rw [if_pos e2, if_pos (by omega)]; omega
    ·rw [if_neg e2, if_neg (by omega)]; rfl
theorem all_sb (h : LsOk y l) (hn : ∀ b p, 0 ≤ cellZ fl b p) {b : Nat} : ∀ i, i ≤ l.length → sumA (fun a => atI l a.n == (b : Int)) (allF y l fl i) = if b < i then sumN y.pits.length (cellZ fl b) else 0
 | 0, _ => by simp [allF, sumA]
 | i + 1, hi => by
  rw [allF_succ, sumA_app, all_sb h hn i (by omega), row_sb h hn (by omega) _ (Nat.le_refl _)]
  by_cases e : i = b
  ·subst e; rw [if_neg (by omega), if_pos rfl, if_pos (by omega)]; omega
  ·by_cases e2 : b < i
   ·rw [if_pos e2, if_neg e, if_pos (by omega)]; omega
   ·rw [if_neg e2, if_neg e, if_neg (by omega)]; rfl
theorem all_sp (h : LsOk y l) (hn : ∀ b p, 0 ≤ cellZ fl b p) {p : Nat} (hp : p < y.pits.length) : ∀ i, sumA (fun a => pitI y a.pit == (p : Int)) (allF y l fl i) = sumN i fun b => cellZ fl b p
 | 0 => by simp [allF, sumA, sumN]
 | i + 1 => by rw [allF_succ, sumA_app, all_sp h hn hp i, row_sp h hn _ (Nat.le_refl _), if_pos hp, sumN]
theorem all_chr (h : LsOk y l) (hf : FlOk (accF y l) y.pits.length l.length (volF y l) (roomF y) fl) (hd : doneF l.length (volF y l) fl = true) :
 Chr (accF y l) (atI l) (pitI y) y.pits.length l.length (fun b => (volF y l).getD b 0) (fun p => (roomF y).getD p 0) [] (allF y l fl l.length) := by
 refine ⟨fun a ha => ?_, ?_, fun _ _ => by simp, fun b hb => ?_, fun p hp => ?_⟩
 ·obtain ⟨b, p, hb, hp, hc, rfl⟩ := mem_allF ha
  refine ⟨?_, ?_, hc, ?_⟩
  all_goals
   dsimp only
  ·rw [atI_self h hb]; omega
  ·rw [pitI_name h.yd hp]; omega
  ·rw [atI_self h hb, pitI_name h.yd hp]; exact hf.ac b p hc
 ·have := all_lex (fl := fl) h l.length (Nat.le_refl _)
  rw [List.Nodup, List.pairwise_map]
  refine this.imp fun {a c} hl he => ?_
  have e1 : prL y l a = prL y l c := he
  rw [e1] at hl
  rcases hl with h1 | h1
  ·exact absurd h1 (Int.lt_irrefl _)
  ·exact absurd h1.2 (Int.lt_irrefl _)
 ·rw [all_sb h hf.nn _ (Nat.le_refl _), if_pos hb]
  have h1 := hf.lf b hb
  have h2 := done_iff.1 hd b hb
  rw [left_sum hf.dim hb] at h1 h2
  omega
 ·rw [all_sp h hf.nn hp]
  have h1 := hf.fr p hp
  rw [free_sum hf.dim] at h1
  omega
end
end Go.Proofs.Try
end

section
namespace Go.Proofs.Try
open Go Go.Vm
set_option maxRecDepth 20000
set_option maxHeartbeats 8000000
def tkC (y : Yd) (l : List Bt) (vol room : List Int) (fl : List (List Int)) : List D :=
 [.sl 6 (y.pits.map ptD), .sl 3 (y.bulk.map bkD), .sl 3 (y.deps.map dpD), .sl 1 (y.carry.map iD), .sl 5 (l.map btD), .sl 1 (vol.map iD), .sl 1 (room.map iD), .sl 1 ((fl.map fun r => r.map iD).map (.sl 1))]
theorem ev_begin {y : Yd} {l : List Bt} (hs : smallP y) (hl : l.length ≤ 1000000) (h0 : lstE y l = 0) :
 Ev Try.prog 41 [ydD y, .sl 5 (l.map btD)] (.tup [.ref (tkC y l (volF y l) (roomF y) (flow0 y l)) 0, iD 0]) :=
 Ev.ofPtr (b := 9) (rest := [iD 0]) (xv_begin hs hl h0) rfl rfl (.unM (rs := (flow0 y l).map fun r => r.map iD) (by rw [List.map_map]; rfl) (.ok _ _))
section
variable {y : Yd} {l : List Bt} {vol room : List Int} {fl : List (List Int)}
theorem ev_batchOfD (n : Int) (hl : l.length ≤ 1000000) : Ev Try.prog 61 [.ref (tkC y l vol room fl) 0, iD n] (iD (atI l n)) := by
 have hw := ev_IndexBt l 100 [.ref [iD n] 0] (fun b => b.n == n) hl (fun b _ => ev_batchOf1 b n)
 unfold tkC
 refine ev_of_awp tysOk mixed (fn := Try.f61) Try.func61 rfl rfl rfl ?_
 conv => whnf
 repeat' (first|((with_reducible refine AltK.l ?_);(conv=>whnf);(first|(refine CallK.mk _ (hw) ?_));conv=>whnf)|fail)
 rfl
theorem ev_acceptsD {p b : Nat} (hp : p < y.pits.length) (hb : b < l.length) (hcl : ∀ p ∈ y.pits, p.cls.length ≤ 1000000) :
 Ev Try.prog 63 [.ref (tkC y l vol room fl) 0, iD p, iD b] (.bool (accF y l p b)) := by
 obtain ⟨q, hq⟩ := some_of_lt hp
 obtain ⟨x, hx⟩ := some_of_lt hb
 have hl1 : (y.pits.map ptD).length = y.pits.length := List.length_map _
 have hl2 : (l.map btD).length = l.length := List.length_map _
 have hc := ev_ContainsInt q.cls x.cls (hcl q (List.mem_of_getElem? hq))
 have el : accF y l p b = q.cls.any fun c => c == x.cls := by simp [accF, hq, hx, accB]
 rw [el]
 unfold tkC
 refine ev_of_awp tysOk mixed (fn := Try.f63) Try.func63 rfl rfl rfl ?_
 conv => whnf
 repeat' (first|((refine PickE.map b hx (by omega) ?_);conv=>whnf)|((refine PickE.map p hq (by omega) ?_);conv=>whnf)|((with_reducible refine Need.mk ?_ ?_);(first|omega|rfl|decide|(refine ⟨?_,?_⟩<;>simp<;>omega)|(simp;omega));conv=>whnf)|((with_reducible refine AltK.l ?_);(conv=>whnf);(first|(refine CallK.mk _ (hc) ?_));conv=>whnf)|fail)
 rfl
end
theorem ev_IndexIf (l : List Int) (f : Nat) (p : Int → Bool) (hn : l.length ≤ 1000000) (hf : ∀ g ∈ l, Ev Try.prog f [iD g] (.bool (p g))) :
 Ev Try.prog 109 [.sl 1 (l.map iD), .fn f []] (iD (ixI p l)) := by
 have hlen : (l.map iD).length = l.length := List.length_map _
 refine ev_of_awp tysOk mixed (fn := Try.f109) Try.func109 rfl rfl rfl ?_
 conv => whnf
 skip
 refine LoopK.o2 (fun i : Nat => i ≤ l.length ∧ ∀ g ∈ l.take i, p g = false) (fun i => [(8, .d (.int .i64 i))]) (fun _ => []) (fun i => l.length - i) 0 (by simp) (by refine ⟨?_, ?_, rfl⟩<;>(repeat' (first|exact True.intro|exact rfl|(refine ⟨?_,?_⟩)|fail));done) ?_
 rintro i ⟨hi, hp⟩
 by_cases hil : i < l.length
 ·obtain ⟨g, hg⟩ := some_of_lt hil
  have hc := hf g (List.mem_of_getElem? hg)
  cases hpg : p g with
  | true =>
   rw [hpg] at hc
   conv => whnf
   repeat' (first|((refine PickE.map i hg (by omega) ?_);conv=>whnf)|((with_reducible refine Split.of_true ?_);conv=>whnf)|((with_reducible refine Split.dec (fun _=>?_) (fun _=>?_))<;>conv=>whnf)|((with_reducible refine Need.mk ?_ ?_);(first|omega|rfl|decide|(refine ⟨?_,?_⟩<;>simp<;>omega)|(simp;omega));conv=>whnf)|((with_reducible refine AltK.l ?_);(conv=>whnf);(first|(refine CallK.mk _ (hc) ?_));conv=>whnf)|(exfalso;first|omega|contradiction)|fail)
   have e : l.findIdx? p = some i := by
    rw [List.findIdx?_eq_some_iff_getElem]
    refine ⟨by omega, by rw [(List.getElem?_eq_some_iff.1 hg).2]; exact hpg, fun j hj => ?_⟩
    have := hp l[j] (List.mem_take_iff_getElem.2 ⟨j, by omega, rfl⟩)
    rw [this]; decide
   rw [ixI, e]; rfl
  | false =>
   rw [hpg] at hc
   conv => whnf
   repeat' (first|((refine PickE.map i hg (by omega) ?_);conv=>whnf)|((with_reducible refine Split.of_false ?_);conv=>whnf)|((with_reducible refine Split.dec (fun _=>?_) (fun _=>?_))<;>conv=>whnf)|((with_reducible refine Need.mk ?_ ?_);(first|omega|rfl|decide|(refine ⟨?_,?_⟩<;>simp<;>omega)|(simp;omega));conv=>whnf)|((with_reducible refine Wr.inr ?_ ?_);(first|omega|(simp;omega));conv=>whnf)|((with_reducible refine AltK.l ?_);(conv=>whnf);(first|(refine CallK.mk _ (hc) ?_));conv=>whnf)|(exfalso;first|omega|contradiction)|fail)
   refine Again.au (i + 1) ⟨by omega, fun z hz => ?_⟩ (by omega) (by refine ⟨?_, ?_, rfl⟩<;>(repeat' (first|exact True.intro|exact rfl|(refine ⟨?_,?_⟩)|fail));done)
   rw [take_snoc hg] at hz
   rcases List.mem_append.1 hz with hz | hz
   ·exact hp z hz
   ·rw [List.mem_singleton.1 hz]; exact hpg
 ·have e : l.findIdx? p = none := by
   rw [List.findIdx?_eq_none_iff]
   intro z hz
   rw [← List.take_of_length_le (show l.length ≤ i by omega)] at hz
   exact hp z hz
  rw [ixI, e]
  conv => whnf
  repeat' (first|((with_reducible refine Split.dec (fun _=>?_) (fun _=>?_))<;>conv=>whnf)|((with_reducible refine Need.mk ?_ ?_);(first|omega|rfl|decide|(refine ⟨?_,?_⟩<;>simp<;>omega)|(simp;omega));conv=>whnf)|(exfalso;first|omega|contradiction)|fail)
  rfl
theorem ev_ContainsIf (l : List Int) (f : Nat) (p : Int → Bool) (hn : l.length ≤ 1000000) (hf : ∀ g ∈ l, Ev Try.prog f [iD g] (.bool (p g))) :
 Ev Try.prog 92 [.sl 1 (l.map iD), .fn f []] (.bool (l.any p)) := by
 have h := ev_IndexIf l f p hn hf
 rw [any_ix]
 generalize ixI p l = i at *
 refine ev_of_awp tysOk mixed (fn := Try.f92) Try.func92 rfl rfl rfl ?_
 conv => whnf
 repeat' (first|((with_reducible refine AltK.l ?_);(conv=>whnf);(first|(refine CallK.mk _ (h) ?_));conv=>whnf)|fail)
 simp only [retOf, D.bool.injEq, decide_eq_decide]; omega
theorem ev_assigned1 (v : Int) : Ev Try.prog 93 [iD v] (.bool (v != 0)) := by
 refine ev_of_awp tysOk mixed (fn := Try.f93) Try.func93 rfl rfl rfl ?_
 conv => whnf
 skip
 rfl
def prD (k : Int × Int) : D := .agg [iD k.1, iD k.2]
theorem asgGo_at {acc : Nat → Nat → Bool} {ib : Int → Int} {ip : ByteArray → Int} {v r : List Int} {sn : List (Int × Int)} {x : List Al} {i : Nat} {a : Al} (h : x[i]? = some a) : asgGo acc ib ip v r sn (x.drop i) =
 if ib a.n < 0 ∨ ip a.pit < 0 ∨ a.vol ≤ 0 then none
 else if acc (ip a.pit).toNat (ib a.n).toNat = false then none
 else if (ib a.n, ip a.pit) ∈ sn then none
 else if v.getD (ib a.n).toNat 0 < a.vol ∨ r.getD (ip a.pit).toNat 0 < a.vol then none
 else asgGo acc ib ip (v.set (ib a.n).toNat (v.getD (ib a.n).toNat 0 - a.vol)) (r.set (ip a.pit).toNat (r.getD (ip a.pit).toNat 0 - a.vol)) (sn ++ [(ib a.n, ip a.pit)]) (x.drop (i + 1)) := by
 rw [drop_of h, asgGo]
theorem ev_assigned {y : Yd} {l : List Bt} {vol room : List Int} {fl : List (List Int)} (h : TkOk y l vol room fl) (x : List Al) (hn : x.length ≤ 1000) :
 Ev Try.prog 46 [.ref (tkC y l vol room fl) 0, .sl 3 (x.map alD)] (.bool (asgB (accF y l) (atI l) (pitI y) vol room x)) := by
 have e1 := h.hv
 have e2 := h.hr
 have e3 := h.hL
 have e4 := h.hP
 have hlx : (x.map alD).length = x.length := List.length_map _
 have c1 : EvX Try.prog 72 [.d (.sl 1 (vol.map iD))] [] (.own 17 1 (vol.map iD).length) [(17, .row 3 1 (vol.map iD) false)] := EvX.new1 (xs := [.sl 1 (vol.map iD)]) (xv_clonedI vol (by omega)) 17
 have c2 : EvX Try.prog 72 [.d (.sl 1 (room.map iD))] [] (.own 22 1 (room.map iD).length) [(22, .row 3 1 (room.map iD) false)] := EvX.new1 (xs := [.sl 1 (room.map iD)]) (xv_clonedI room (by omega)) 22
 have hBt := fun n => ev_batchOfD (y := y) (l := l) (vol := vol) (room := room) (fl := fl) n (by omega)
 have hAc := fun (p b : Nat) (hp : p < y.pits.length) (hb : b < l.length) => ev_acceptsD (y := y) (l := l) (vol := vol) (room := room) (fl := fl) hp hb h.cl
 unfold tkC at hBt hAc ⊢
 have hres : ∀ r, asgGo (accF y l) (atI l) (pitI y) vol room [] x = r → asgB (accF y l) (atI l) (pitI y) vol room x = match r with
  | none => false
  | some v => !v.any fun z => z != 0 := fun r hr => by subst hr; rfl
 generalize asgB (accF y l) (atI l) (pitI y) vol room x = res at *
 refine ev_of_awp tysOk mixed (fn := Try.f46) Try.func46 rfl rfl rfl ?_
 conv => whnf
 repeat' (first|((with_reducible refine AltK.r ?_);(conv=>whnf);(first|(refine CallX.mk _ _ (c1) rfl ?_)|(refine CallX.mk _ _ (c2) rfl ?_));conv=>whnf)|fail)
 refine LoopK.o3 (fun z : Nat × List Int × List Int × List (Int × Int) => z.1 ≤ x.length ∧ asgGo (accF y l) (atI l) (pitI y) vol room [] x = asgGo (accF y l) (atI l) (pitI y) z.2.1 z.2.2.1 z.2.2.2 (x.drop z.1) ∧ z.2.1.length = l.length ∧ z.2.2.1.length = y.pits.length ∧ z.2.2.2.length = z.1 ∧ (∀ q ∈ z.2.1, 0 ≤ q ∧ q ≤ 100000000000000000) ∧ (∀ q ∈ z.2.2.1, 0 ≤ q ∧ q ≤ 100000000000000000))
  (fun z => [(25, .d (iD z.1)), (7, .own 200 2 (z.2.2.2.map prD).length)]) (fun z => [(17, .row 3 1 (z.2.1.map iD) false), (22, .row 3 1 (z.2.2.1.map iD) false), (200, .row 141 2 (z.2.2.2.map prD) false)]) (fun z => x.length - z.1)
  (0, vol, room, []) ⟨by omega, rfl, e1, e2, rfl, h.vb, h.rb⟩ (by refine ⟨?_, ?_, rfl⟩<;>(repeat' (first|exact True.intro|exact rfl|(refine ⟨?_,?_⟩)|(intro h;cases h;done)|fail));done) ?_
 rintro ⟨i, v, r, sn⟩ ⟨hi, hgo, hvl, hrl, hsl, hvb, hrb⟩
 dsimp only at hi hgo hvl hrl hsl hvb hrb ⊢
 have hvm : (v.map iD).length = v.length := List.length_map _
 have hrm : (r.map iD).length = r.length := List.length_map _
 have hsm : (sn.map prD).length = sn.length := List.length_map _
 by_cases hil : i < x.length
 ·obtain ⟨a, ha⟩ := some_of_lt hil
  have hxD : (x.map alD)[(i : Int).toNat]? = some (D.agg [iD a.n, .str a.pit, iD a.vol]) := by rw [Int.toNat_natCast, List.getElem?_map, ha]; rfl
  have w1 := hBt a.n
  have w2 := ev_pitOf y a.pit (by omega)
  rw [asgGo_at ha] at hgo
  have l1 : atI l a.n < l.length := ix_lt
  have l2 : pitI y a.pit < y.pits.length := ix_lt
  by_cases hc0 : atI l a.n < 0 ∨ pitI y a.pit < 0 ∨ a.vol ≤ 0
  ·rw [if_pos hc0] at hgo
   rw [hres _ hgo]
   clear hgo hres
   generalize atI l a.n = bi at *
   generalize pitI y a.pit = pi at *
   conv => whnf
   repeat' (first|((refine PickE.mk _ hxD ?_);conv=>whnf)|((with_reducible refine Split.of_true ?_);conv=>whnf)|((with_reducible refine Split.dec (fun _=>?_) (fun _=>?_))<;>conv=>whnf)|((with_reducible refine Need.mk ?_ ?_);(first|omega|rfl|decide|(refine ⟨?_,?_⟩<;>simp<;>omega)|(simp;omega));conv=>whnf)|((with_reducible refine AltK.l ?_);(conv=>whnf);(first|(refine CallK.mk _ (w1) ?_)|(refine CallK.mk _ (w2) ?_));conv=>whnf)|(exfalso;first|omega|contradiction)|fail)
   all_goals first
    | rfl
    |(exfalso; omega)
  rw [if_neg hc0] at hgo
  obtain ⟨b, hb⟩ : ∃ b : Nat, atI l a.n = b := ⟨(atI l a.n).toNat, by omega⟩
  obtain ⟨p, hp⟩ : ∃ p : Nat, pitI y a.pit = p := ⟨(pitI y a.pit).toNat, by omega⟩
  rw [hb, hp] at hgo hc0
  rw [hb] at w1 l1
  rw [hp] at w2 l2
  simp only [Int.toNat_natCast] at hgo
  clear hb hp
  have w3 := hAc p b (by omega) (by omega)
  cases hac : accF y l p b with
  | false =>
   rw [hac, if_pos rfl] at hgo
   rw [hac] at w3
   rw [hres _ hgo]
   clear hgo hres
   conv => whnf
   repeat' (first|((refine PickE.mk _ hxD ?_);conv=>whnf)|((with_reducible first|refine Split.of_true ?_|refine Split.of_false ?_);conv=>whnf)|(with_reducible refine Split.neg ?_)|((with_reducible refine Split.dec (fun _=>?_) (fun _=>?_))<;>conv=>whnf)|((with_reducible refine Need.mk ?_ ?_);(first|omega|rfl|decide|(refine ⟨?_,?_⟩<;>simp<;>omega)|(simp;omega));conv=>whnf)|((with_reducible refine AltK.l ?_);(conv=>whnf);(first|(refine CallK.mk _ (w1) ?_)|(refine CallK.mk _ (w2) ?_)|(refine CallK.mk _ (w3) ?_));conv=>whnf)|(exfalso;first|omega|contradiction)|fail)
   all_goals first
    | rfl
    |(exfalso; omega)
  | true =>
  rw [hac, if_neg (by decide)] at hgo
  rw [hac] at w3
  conv => whnf
  repeat' (first|((refine PickE.mk _ hxD ?_);conv=>whnf)|((with_reducible refine Split.of_true ?_);conv=>whnf)|(with_reducible refine Split.neg ?_)|((with_reducible refine Split.dec (fun _=>?_) (fun _=>?_))<;>conv=>whnf)|((with_reducible refine Need.mk ?_ ?_);(first|omega|rfl|decide|(refine ⟨?_,?_⟩<;>simp<;>omega)|(simp;omega));conv=>whnf)|((with_reducible refine AltK.l ?_);(conv=>whnf);(first|(refine CallK.mk _ (w1) ?_)|(refine CallK.mk _ (w2) ?_)|(refine CallK.mk _ (w3) ?_));conv=>whnf)|(exfalso;first|omega|contradiction)|fail)
  all_goals first
   |(exfalso; omega)
   | skip
  refine LoopK.o3 (fun j : Nat => j ≤ sn.length ∧ ∀ c ∈ sn.take j, c ≠ ((b : Int), (p : Int))) (fun j => [(65, .d (iD j))]) (fun _ => []) (fun j => sn.length - j) 0 ⟨by omega, by simp⟩ (by refine ⟨?_, ?_, rfl⟩<;>(repeat' (first|exact True.intro|exact rfl|(refine ⟨?_,?_⟩)|(intro h;cases h;done)|fail));done) ?_
  rintro j ⟨hj, hjn⟩
  by_cases hjl : j < sn.length
  ·obtain ⟨c, hc⟩ := some_of_lt hjl
   have hcD : (sn.map prD)[(j : Int).toNat]? = some (D.agg [iD c.1, iD c.2]) := by rw [Int.toNat_natCast, List.getElem?_map, hc]; rfl
   by_cases hce : c = ((b : Int), (p : Int))
   ·have hin : ((b : Int), (p : Int)) ∈ sn := by rw [← hce]; exact List.mem_of_getElem? hc
    rw [if_pos hin] at hgo
    rw [hres _ hgo]
    clear hgo hres
    subst hce
    conv => whnf
    repeat' (first|((refine PickE.mk _ hcD ?_);conv=>whnf)|((with_reducible refine Split.of_true ?_);conv=>whnf)|((with_reducible refine Split.eqz (fun _=>?_) (fun _=>?_))<;>conv=>whnf)|(with_reducible refine Split.and ?_)|((with_reducible refine Split.dec (fun _=>?_) (fun _=>?_))<;>conv=>whnf)|((with_reducible refine Need.mk ?_ ?_);(first|omega|rfl|decide|(refine ⟨?_,?_⟩<;>simp<;>omega)|(simp;omega));conv=>whnf)|((with_reducible refine Wr.inr ?_ ?_);(first|omega|(simp;omega));conv=>whnf)|(exfalso;first|omega|contradiction)|fail)
    all_goals first
     | rfl
     | contradiction
     |(exfalso; omega)
   ·conv => whnf
    repeat' (first|((refine PickE.mk _ hcD ?_);conv=>whnf)|((with_reducible refine Split.of_true ?_);conv=>whnf)|((with_reducible refine Split.eqz (fun _=>?_) (fun _=>?_))<;>conv=>whnf)|(with_reducible refine Split.and ?_)|((with_reducible refine Split.dec (fun _=>?_) (fun _=>?_))<;>conv=>whnf)|((with_reducible refine Need.mk ?_ ?_);(first|omega|rfl|decide|(refine ⟨?_,?_⟩<;>simp<;>omega)|(simp;omega));conv=>whnf)|((with_reducible refine Wr.inr ?_ ?_);(first|omega|(simp;omega));conv=>whnf)|(exfalso;first|omega|contradiction)|fail)
    all_goals first
     |(exfalso; exact hce (Prod.ext (by assumption) (by assumption)))
     | skip
    all_goals refine Again.av (j + 1) ⟨by omega, fun z hz => ?_⟩ (by omega) (by refine ⟨?_, ?_, rfl⟩<;>(repeat' (first|exact True.intro|exact rfl|(refine ⟨?_,?_⟩)|(intro h;cases h;done)|fail));done)
    all_goals
     rw [take_snoc hc] at hz
     rcases List.mem_append.1 hz with hz | hz
     ·exact hjn z hz
     ·rw [List.mem_singleton.1 hz]; exact hce
  ·have hje : j = sn.length := by omega
   subst hje
   rw [List.take_length] at hjn
   have hni : ((b : Int), (p : Int)) ∉ sn := fun h => hjn _ h rfl
   rw [if_neg hni] at hgo
   obtain ⟨vb, hvb1⟩ := some_of_lt (show b < v.length by omega)
   obtain ⟨rp, hrp1⟩ := some_of_lt (show p < r.length by omega)
   have k1 := hvb vb (List.mem_of_getElem? hvb1)
   have k2 := hrb rp (List.mem_of_getElem? hrp1)
   rw [show v.getD b 0 = vb by rw [List.getD, hvb1]; rfl, show r.getD p 0 = rp by rw [List.getD, hrp1]; rfl] at hgo
   by_cases hbig : vb < a.vol ∨ rp < a.vol
   ·rw [if_pos hbig] at hgo
    rw [hres _ hgo]
    clear hgo hres
    conv => whnf
    repeat' (first|((refine PickE.map p hrp1 (by omega) ?_);conv=>whnf)|((refine PickE.map b hvb1 (by omega) ?_);conv=>whnf)|((with_reducible refine Split.of_true ?_);conv=>whnf)|((with_reducible refine Split.dec (fun _=>?_) (fun _=>?_))<;>conv=>whnf)|((with_reducible refine Need.mk ?_ ?_);(first|omega|rfl|decide|(refine ⟨?_,?_⟩<;>simp<;>omega)|(simp;omega));conv=>whnf)|((with_reducible refine Wr.inr ?_ ?_);(first|omega|(simp;omega));conv=>whnf)|(exfalso;first|omega|contradiction)|fail)
    all_goals first
     | rfl
     |(exfalso; omega)
   ·rw [if_neg hbig] at hgo
    have hmp1 : sn.map prD ++ [D.agg [iD (b : Int), iD (p : Int)]] = (sn ++ [((b : Int), (p : Int))]).map prD := by simp [prD]
    have hmp2 : (v.map iD).set (b : Int).toNat (iD (vb - a.vol)) = (v.set b (vb - a.vol)).map iD := by rw [Int.toNat_natCast, List.map_set]
    have hmp3 : (r.map iD).set (p : Int).toNat (iD (rp - a.vol)) = (r.set p (rp - a.vol)).map iD := by rw [Int.toNat_natCast, List.map_set]
    conv => whnf
    repeat' (first|((refine PickE.map p hrp1 (by omega) ?_);conv=>whnf)|((refine PickE.map b hvb1 (by omega) ?_);conv=>whnf)|((with_reducible refine Split.of_true ?_);conv=>whnf)|((with_reducible refine Split.dec (fun _=>?_) (fun _=>?_))<;>conv=>whnf)|((with_reducible refine Need.mk ?_ ?_);(first|omega|rfl|decide|(refine ⟨?_,?_⟩<;>simp<;>omega)|(simp;omega));conv=>whnf)|((with_reducible refine Wr.inr ?_ ?_);(first|omega|(simp;omega));conv=>whnf)|(exfalso;first|omega|contradiction)|fail)
    all_goals first
     |(exfalso; omega)
     | skip
    refine Again.av (i + 1, v.set b (vb - a.vol), r.set p (rp - a.vol), sn ++ [((b : Int), (p : Int))]) ⟨by dsimp only;omega, hgo, by rw [List.length_set];exact hvl, by rw [List.length_set];exact hrl, by simp;omega, fun q hq => ?_, fun q hq => ?_⟩ (by dsimp only;omega) (by refine ⟨?_, ?_, rfl⟩<;>(repeat' (first|exact True.intro|exact rfl|(refine ⟨?_,?_⟩)|(intro h;cases h;done)|(refine own_congr ?_;simp;done)|exact hmp1|exact hmp2|exact hmp3|fail));done)
    ·rcases List.mem_or_eq_of_mem_set hq with h1 | h1
     ·exact hvb q h1
     ·omega
    ·rcases List.mem_or_eq_of_mem_set hq with h1 | h1
     ·exact hrb q h1
     ·omega
 ·rw [List.drop_eq_nil_of_le (show x.length ≤ i by omega), asgGo] at hgo
  rw [hres _ hgo]
  have w4 := ev_ContainsIf v 93 (fun z => z != 0) (by omega) (fun z _ => ev_assigned1 z)
  dsimp only
  conv => whnf
  repeat' (first|((with_reducible refine Split.dec (fun _=>?_) (fun _=>?_))<;>conv=>whnf)|((with_reducible refine Need.mk ?_ ?_);(first|omega|rfl|decide|(refine ⟨?_,?_⟩<;>simp<;>omega)|(simp;omega));conv=>whnf)|((with_reducible refine AltK.l ?_);(conv=>whnf);(first|(refine CallK.mk _ (w4) ?_));conv=>whnf)|(exfalso;first|omega|contradiction)|fail)
  all_goals first
   | rfl
   |(exfalso; omega)
end Go.Proofs.Try
end

section
namespace Go.Proofs.Try
open Go Go.Vm
set_option maxRecDepth 20000
section
variable {acc : Nat → Nat → Bool} {P L : Nat} {pr : Nat → Int} {bs ps : List Int}
end
theorem asg_chr9 {y : Yd} {l : List Bt} (h : LsOk y l) (x : List Al) : asgB (accF y l) (atI l) (pitI y) (volF y l) (roomF y) x = true ↔ Chr (accF y l) (atI l) (pitI y) y.pits.length l.length (fun b => (volF y l).getD b 0) (fun p => (roomF y).getD p 0) [] x := by
 have hy := yd_ok h.yd
 exact asgB_chr (P := y.pits.length) (L := l.length) atI_ok.lt (fun s => pitI_lt s) (volsGo_spec h.wok ⟨hy.carL, hy.car⟩).1 (by rw [roomF, List.length_map]) (fun p _ => (room_bd hy p).1) x
section
variable {y : Yd} {l : List Bt} {fl : List (List Int)} {t : Tf}
theorem chr_done {x : List Al} (hf : FlOk (accF y l) y.pits.length l.length (volF y l) (roomF y) fl) (hs : ∀ p, p < y.pits.length → Shut (accF y l) y.pits.length l.length (volF y l) (roomF y) fl p)
 (hc : Chr (accF y l) (atI l) (pitI y) y.pits.length l.length (fun b => (volF y l).getD b 0) (fun p => (roomF y).getD p 0) [] x) : doneF l.length (volF y l) fl = true := by
 cases hd : doneF l.length (volF y l) fl with
 | true => rfl
 | false =>
  obtain ⟨w, -, -, h1⟩ := is_cut hf hs hd (Nat.le_refl l.length)
  obtain ⟨f2, g1, g2, -⟩ := chr_flow hc
  have := no_cut g1 (done_iff.2 fun b hb => by rw [g2 b hb]; exact Int.le_refl _) (hasN w.bs)
  omega
end
end Go.Proofs.Try
end

section
namespace Go.Proofs.Try
open Go Go.Vm
set_option maxRecDepth 20000
set_option maxHeartbeats 8000000
theorem ev_CheckShares {y : Yd} {l : List Bt} (hs : smallP y) (h0 : lstE y l = 0) (x : List Al) (hn : x.length ≤ 1000) :
 Ev Try.prog 20 [ydD y, .sl 5 (l.map btD), .sl 3 (x.map alD)] (iD (if asgB (accF y l) (atI l) (pitI y) (volF y l) (roomF y) x = true then 0 else 21)) := by
 have hO := ls_ok h0
 have hlen := hO.len
 have hB := ev_begin hs (show l.length ≤ 1000000 by omega) h0
 have hA := ev_assigned (tk_ok hs hO) x hn
 have hJ := ev_judged (asgB (accF y l) (atI l) (pitI y) (volF y l) (roomF y) x)
 unfold tkC at hB hA
 generalize asgB (accF y l) (atI l) (pitI y) (volF y l) (roomF y) x = b at *
 refine ev_of_awp tysOk mixed (fn := Try.f20) Try.func20 rfl rfl rfl ?_
 conv => whnf
 repeat' (first|((with_reducible refine Split.is_false ?_ ?_);decide;conv=>whnf)|((with_reducible refine AltK.l ?_);(conv=>whnf);(first|(refine CallK.mk _ (hB) ?_)|(refine CallK.mk _ (hA) ?_)|(refine CallK.mk _ (hJ) ?_));conv=>whnf)|fail)
 all_goals first
  | rfl
  |(exfalso; omega)
end Go.Proofs.Try
end

section
namespace Go.Proofs.Try
open Go Go.Vm
set_option maxRecDepth 20000
set_option maxHeartbeats 8000000
theorem cutP_bd {acc : Nat → Nat → Bool} {room : List Int} {M : Int} (hr : ∀ p, 0 ≤ room.getD p 0 ∧ room.getD p 0 ≤ M) {b p : Nat} {s : List Nat × Int} : s.2 ≤ (cutP acc room b s p).2 ∧ (cutP acc room b s p).2 ≤ s.2 + M := by
 have := hr p
 unfold cutP
 split
 ·omega
 split <;> omega
theorem cutR_bd {acc : Nat → Nat → Bool} {room : List Int} {M : Int} (hr : ∀ p, 0 ≤ room.getD p 0 ∧ room.getD p 0 ≤ M) {b : Nat} {s : List Nat × Int} : ∀ i : Nat, s.2 ≤ ((List.range i).foldl (cutP acc room b) s).2 ∧ ((List.range i).foldl (cutP acc room b) s).2 ≤ s.2 + i * M
 | 0 => by simp
 | i + 1 => by
  have ih := cutR_bd (acc := acc) hr (b := b) (s := s) i
  have h1 := cutP_bd (acc := acc) hr (b := b) (p := i) (s := (List.range i).foldl (cutP acc room b) s)
  have : ((i + 1 : Nat) : Int) * M = i * M + M := by rw [Int.natCast_add, Int.add_mul]; simp
  rw [range_snoc]
  omega
theorem cutGo_at {acc : Nat → Nat → Bool} {P : Nat} {vol room : List Int} {ix : Int → Int} {cut : List Int} {i : Nat} {n : Int} {need : Int} {s : List Nat × Int} (h : cut[i]? = some n) : cutGo acc P vol room ix (cut.take i) need s (cut.drop i) =
 if ix n < 0 then none else if (cut.take i).any (fun c => c == n) = true then none
 else cutGo acc P vol room ix (cut.take (i + 1)) (need + vol.getD (ix n).toNat 0) ((List.range P).foldl (cutP acc room (ix n).toNat) s) (cut.drop (i + 1)) := by
 rw [drop_of h, cutGo, take_snoc h]; rfl
theorem ev_CheckCut {y : Yd} {l : List Bt} {cut : List Int} (hs : smallP y) (h0 : lstE y l = 0) (hc : cut.length ≤ 30) :
 Ev Try.prog 24 [ydD y, .sl 5 (l.map btD), .sl 1 (cut.map iD)] (iD (if cutB (accF y l) y.pits.length (volF y l) (roomF y) (atI l) cut = true then 0 else 21)) := by
 have hO := ls_ok h0
 have hy := yd_ok hO.yd
 have hT := tk_ok hs hO
 have hlen := hO.len
 have hP8 := hy.pits
 have hlc : (cut.map iD).length = cut.length := List.length_map _
 have hlp : (y.pits.map ptD).length = y.pits.length := List.length_map _
 have hrb := room_bd hy
 have hvb := vol_bd hO
 have hB := ev_begin hs (show l.length ≤ 1000000 by omega) h0
 generalize volF y l = vol at *
 generalize roomF y = room at *
 generalize flow0 y l = fl at *
 have e1 := hT.hv
 have e2 := hT.hr
 have hvm : (vol.map iD).length = vol.length := List.length_map _
 have hrm : (room.map iD).length = room.length := List.length_map _
 have hBt := fun n => ev_batchOfD (y := y) (l := l) (vol := vol) (room := room) (fl := fl) n (by omega)
 have hAc := fun (p b : Nat) (hp : p < y.pits.length) (hb : b < l.length) => ev_acceptsD (y := y) (l := l) (vol := vol) (room := room) (fl := fl) hp hb hT.cl
 unfold tkC at hB hBt hAc
 have hres : ∀ r, cutGo (accF y l) y.pits.length vol room (atI l) [] 0 ([], 0) cut = r → cutB (accF y l) y.pits.length vol room (atI l) cut = match r with
  | none => false
  | some r => decide (r.2 < r.1) := fun r hr => by subst hr; rfl
 generalize cutB (accF y l) y.pits.length vol room (atI l) cut = res at *
 refine ev_of_awp tysOk mixed (fn := Try.f24) Try.func24 rfl rfl rfl ?_
 conv => whnf
 repeat' (first|((with_reducible refine Split.is_false ?_ ?_);decide;conv=>whnf)|((with_reducible refine AltK.l ?_);(conv=>whnf);(first|(refine CallK.mk _ (hB) ?_));conv=>whnf)|fail)
 refine LoopK.o3 (fun z : Nat × Int × (List Nat × Int) => z.1 ≤ cut.length ∧ cutGo (accF y l) y.pits.length vol room (atI l) [] 0 ([], 0) cut = cutGo (accF y l) y.pits.length vol room (atI l) (cut.take z.1) z.2.1 z.2.2 (cut.drop z.1) ∧ 0 ≤ z.2.1 ∧ z.2.1 ≤ z.1 * 10000000000001000 ∧ 0 ≤ z.2.2.2 ∧ z.2.2.2 ≤ z.1 * 320000000000000)
  (fun z => [(28, .d (iD z.1)), (9, .d (iD z.2.1)), (10, .d (iD z.2.2.2))]) (fun z => [(25, .map 3 4 (.int .i64) (seenD (fun n : Nat => (n : Int)) z.2.2.1))]) (fun z => cut.length - z.1) (0, 0, [], 0) ⟨by omega, rfl, by decide, by decide, by decide, by decide⟩ (by refine ⟨?_, ?_, rfl⟩<;>(repeat' (first|exact True.intro|exact rfl|(refine ⟨?_,?_⟩)|(intro h;cases h;done)|fail));done) ?_
 rintro ⟨i, need, s⟩ ⟨hi, hgo, n1, n2, n3, n4⟩
 dsimp only at hi hgo n1 n2 n3 n4 ⊢
 by_cases hil : i < cut.length
 ·obtain ⟨n, hn⟩ := some_of_lt hil
  rw [cutGo_at hn] at hgo
  have l1 : atI l n < l.length := ix_lt
  have w1 := hBt n
  have w2 : Ev Try.prog 62 [.sl 1 (((cut.map iD).take (i : Int).toNat).drop (0 : Int).toNat), iD n] (.bool ((cut.take i).any fun c => c == n)) := by
   have := ev_ContainsInt (cut.take i) n (by rw [List.length_take]; omega)
   rw [List.map_take] at this
   exact this
  by_cases hc0 : atI l n < 0
  ·rw [if_pos hc0] at hgo
   rw [hres _ hgo]
   clear hgo hres
   generalize atI l n = bi at *
   conv => whnf
   repeat' (first|((refine PickE.map i hn (by omega) ?_);conv=>whnf)|((with_reducible refine Split.of_true ?_);conv=>whnf)|((with_reducible refine Split.dec (fun _=>?_) (fun _=>?_))<;>conv=>whnf)|((with_reducible refine Split.mk (fun _=>?_) (fun _=>?_))<;>conv=>whnf)|((with_reducible refine Need.mk ?_ ?_);(first|omega|rfl|decide|(refine ⟨?_,?_⟩<;>simp<;>omega)|(simp;omega));conv=>whnf)|((with_reducible refine AltK.l ?_);(conv=>whnf);(first|(refine CallK.mk _ (w2) ?_)|(refine CallK.mk _ (w1) ?_));conv=>whnf)|(exfalso;first|omega|contradiction)|fail)
   all_goals first
    | rfl
    |(exfalso; omega)
  ·rw [if_neg hc0] at hgo
   cases hco : (cut.take i).any fun c => c == n with
   | true =>
    rw [hco, if_pos rfl] at hgo
    rw [hco] at w2
    rw [hres _ hgo]
    clear hgo hres
    generalize atI l n = bi at *
    conv => whnf
    repeat' (first|((refine PickE.map i hn (by omega) ?_);conv=>whnf)|((with_reducible refine Split.of_true ?_);conv=>whnf)|((with_reducible refine Split.dec (fun _=>?_) (fun _=>?_))<;>conv=>whnf)|((with_reducible refine Need.mk ?_ ?_);(first|omega|rfl|decide|(refine ⟨?_,?_⟩<;>simp<;>omega)|(simp;omega));conv=>whnf)|((with_reducible refine AltK.l ?_);(conv=>whnf);(first|(refine CallK.mk _ (w2) ?_)|(refine CallK.mk _ (w1) ?_));conv=>whnf)|(exfalso;first|omega|contradiction)|fail)
    all_goals first
     | rfl
     |(exfalso; omega)
   | false =>
    rw [hco, if_neg (by decide)] at hgo
    rw [hco] at w2
    obtain ⟨k, hk⟩ : ∃ k : Nat, atI l n = k := ⟨(atI l n).toNat, by omega⟩
    rw [hk] at w1 hgo hc0 l1
    rw [Int.toNat_natCast] at hgo
    obtain ⟨v, hv⟩ := some_of_lt (show k < vol.length by omega)
    have hvk := hvb k
    have hvd : vol.getD k 0 = v := by rw [List.getD, hv]; rfl
    rw [hvd] at hgo hvk
    clear hk
    have hbd := cutR_bd (acc := accF y l) hrb (b := k) (s := s)
    conv => whnf
    repeat' (first|((refine PickE.map k hv (by omega) ?_);conv=>whnf)|((refine PickE.map i hn (by omega) ?_);conv=>whnf)|((with_reducible first|refine Split.of_true ?_|refine Split.of_false ?_);conv=>whnf)|((with_reducible refine Split.dec (fun _=>?_) (fun _=>?_))<;>conv=>whnf)|((with_reducible refine Need.mk ?_ ?_);(first|omega|rfl|decide|(refine ⟨?_,?_⟩<;>simp<;>omega)|(simp;omega));conv=>whnf)|((with_reducible refine Wr.inr ?_ ?_);(first|omega|(simp;omega));conv=>whnf)|((with_reducible refine AltK.l ?_);(conv=>whnf);(first|(refine CallK.mk _ (w2) ?_)|(refine CallK.mk _ (w1) ?_));conv=>whnf)|(exfalso;first|omega|contradiction)|fail)
    all_goals first
     |(exfalso; omega)
     | skip
    refine LoopK.o3 (fun j : Nat => j ≤ y.pits.length)
     (fun j => [(57, .d (iD j)), (10, .d (iD ((List.range j).foldl (cutP (accF y l) room k) s).2))]) (fun j => [(25, .map 3 4 (.int .i64) (seenD (fun n : Nat => (n : Int)) ((List.range j).foldl (cutP (accF y l) room k) s).1))]) (fun j => y.pits.length - j) 0 (by omega) (by refine ⟨?_, ?_, rfl⟩<;>(repeat' (first|exact True.intro|exact rfl|(refine ⟨?_,?_⟩)|(intro h;cases h;done)|fail));done) ?_
    rintro j hj
    dsimp only at hj ⊢
    have hst := range_snoc (cutP (accF y l) room k) s j
    have hbj := hbd j
    by_cases hjl : j < y.pits.length
    ·have w3 := hAc j k hjl (by omega)
     generalize (List.range j).foldl (cutP (accF y l) room k) s = u at *
     obtain ⟨r, hr⟩ := some_of_lt (show j < room.length by omega)
     have hrj := hrb j
     have hrd : room.getD j 0 = r := by rw [List.getD, hr]; rfl
     rw [hrd] at hrj
     have hm := mget_seen (fun n : Nat => (n : Int)) j u.1
     rw [cutP, hrd] at hst
     cases hac : accF y l j k with
     | false =>
      rw [hac, if_pos rfl] at hst
      rw [hac] at w3
      conv => whnf
      repeat' (first|((with_reducible refine Split.of_false ?_);conv=>whnf)|((with_reducible refine Split.dec (fun _=>?_) (fun _=>?_))<;>conv=>whnf)|((with_reducible refine Wr.inr ?_ ?_);(first|omega|(simp;omega));conv=>whnf)|((with_reducible refine AltK.l ?_);(conv=>whnf);(first|(refine CallK.mk _ (w3) ?_));conv=>whnf)|(exfalso;first|omega|contradiction)|fail)
      refine Again.av (j + 1) (by omega) (by omega) ?_
      rw [hst]
      exact (by refine ⟨?_, ?_, rfl⟩<;>(repeat' (first|exact True.intro|exact rfl|(refine ⟨?_,?_⟩)|(intro h;cases h;done)|fail));done)
     | true =>
      rw [hac, if_neg (by decide)] at hst
      rw [hac] at w3
      conv => whnf
      repeat' (first|((with_reducible refine Split.of_true ?_);conv=>whnf)|((with_reducible refine Split.dec (fun _=>?_) (fun _=>?_))<;>conv=>whnf)|((with_reducible refine Need.mk ?_ ?_);(first|omega|rfl|decide|(refine ⟨?_,?_⟩<;>simp<;>omega)|(simp;omega));conv=>whnf)|((with_reducible refine Wr.inr ?_ ?_);(first|omega|(simp;omega));conv=>whnf)|((with_reducible refine AltK.l ?_);(conv=>whnf);(first|(refine CallK.mk _ (w3) ?_));conv=>whnf)|(exfalso;first|omega|contradiction)|fail)
      refine LookK.mk (fun v hv => ?_) (fun hv => ?_)
      ·rw [hm] at hv
       split at hv
       ·rename_i h3
        cases hv
        rw [if_pos h3] at hst
        conv => whnf
        repeat' (first|((with_reducible refine Split.of_true ?_);conv=>whnf)|(with_reducible refine Split.neg ?_)|((with_reducible refine Wr.inr ?_ ?_);(first|omega|(simp;omega));conv=>whnf)|fail)
        refine Again.av (j + 1) (by omega) (by omega) ?_
        rw [hst]
        exact (by refine ⟨?_, ?_, rfl⟩<;>(repeat' (first|exact True.intro|exact rfl|(refine ⟨?_,?_⟩)|(intro h;cases h;done)|fail));done)
       ·cases hv
      ·have h3 : ¬ u.1.any (fun n : Nat => (n : Int) == (j : Int)) = true := fun h => by rw [hm, if_pos h] at hv; cases hv
       rw [if_neg h3] at hst
       have hmp1 : mput (seenD (fun n : Nat => (n : Int)) u.1) (iD j) (.bool true) = seenD (fun n : Nat => (n : Int)) (u.1 ++ [j]) := by
        rw [mput_new hv]; simp [seenD]
       conv => whnf
       repeat' (first|((refine PickE.map j hr (by omega) ?_);conv=>whnf)|((with_reducible refine Split.of_false ?_);conv=>whnf)|(with_reducible refine Split.neg ?_)|((with_reducible refine Need.mk ?_ ?_);(first|omega|rfl|decide|(refine ⟨?_,?_⟩<;>simp<;>omega)|(simp;omega));conv=>whnf)|((with_reducible refine Wr.inr ?_ ?_);(first|omega|(simp;omega));conv=>whnf)|fail)
       refine Again.av (j + 1) (by omega) (by omega) ?_
       rw [hst]
       exact (by refine ⟨?_, ?_, rfl⟩<;>(repeat' (first|exact True.intro|exact rfl|(refine ⟨?_,?_⟩)|(intro h;cases h;done)|exact hmp1|fail));done)
    ·have hje : j = y.pits.length := by omega
     subst hje
     conv => whnf
     repeat' (first|((with_reducible refine Split.dec (fun _=>?_) (fun _=>?_))<;>conv=>whnf)|((with_reducible refine Wr.inr ?_ ?_);(first|omega|(simp;omega));conv=>whnf)|(exfalso;first|omega|contradiction)|fail)
     refine Again.av (i + 1, need + v, (List.range y.pits.length).foldl (cutP (accF y l) room k) s) ⟨by dsimp only;omega, hgo, by dsimp only;omega, by dsimp only;omega, by dsimp only;omega, by dsimp only;omega⟩ (by dsimp only;omega) (by refine ⟨?_, ?_, rfl⟩<;>(repeat' (first|exact True.intro|exact rfl|(refine ⟨?_,?_⟩)|(intro h;cases h;done)|fail));done)
 ·rw [List.drop_eq_nil_of_le (show cut.length ≤ i by omega), cutGo] at hgo
  rw [hres _ hgo]
  dsimp only
  have w4 := ev_judged (decide (s.2 < need))
  conv => whnf
  repeat' (first|((with_reducible refine Split.dec (fun _=>?_) (fun _=>?_))<;>conv=>whnf)|((with_reducible refine Need.mk ?_ ?_);(first|omega|rfl|decide|(refine ⟨?_,?_⟩<;>simp<;>omega)|(simp;omega));conv=>whnf)|((with_reducible refine AltK.l ?_);(conv=>whnf);(first|(refine CallK.mk _ (w4) ?_));conv=>whnf)|(exfalso;first|omega|contradiction)|fail)
  all_goals first
   | rfl
   |(exfalso; omega)
end Go.Proofs.Try
end

section
namespace Go.Proofs.Try
open Go Go.Vm
set_option maxRecDepth 20000
set_option maxHeartbeats 8000000
theorem rcGo_is {vol : List Int} {ix : Int → Int} : ∀ {r o : List Int} {need : Int}, (∀ n ∈ r, 0 ≤ ix n) → (o ++ r).Nodup → ∃ z, rcGo vol ix o need r = some z
 | [], o, need, _, _ => ⟨need, rfl⟩
 | n :: r, o, need, h1, h2 => by
  have h3 := h1 n List.mem_cons_self
  have h4 : ¬ o.any (fun c => c == n) = true := by
   rw [List.any_eq_true]
   rintro ⟨c, hc, he⟩
   have := (List.nodup_append.1 h2).2.2 c hc n List.mem_cons_self
   exact this (eq_of_beq he)
  rw [rcGo, if_neg (by omega), if_neg h4]
  exact rcGo_is (fun m hm => h1 m (List.mem_cons_of_mem _ hm)) (by rw [List.append_assoc]; exact h2)
theorem cut_is {acc : Nat → Nat → Bool} {P L : Nat} {vol room : List Int} {ix : Int → Int} (hix : IxOk ix L) {cut : List Int} (h1 : ∀ n ∈ cut, 0 ≤ ix n) (h2 : cut.Nodup) (h : haveS acc P L room (inC ix cut) < needS L vol (inC ix cut)) : cutB acc P vol room ix cut = true := by
 rw [cut_eq hix]
 have hJ : CutJ P room (openB acc L (inC ix [])) ([], 0) := by
  have e : ∀ p, openB acc L (inC ix []) p = false := fun p => by
   rw [openB, List.any_eq_false]; intro b _; simp [inC]
  refine ⟨fun p _ => by rw [e]; simp, ?_⟩
  simp only [e]
  exact sumN_zero.symm
 have h0 : (0 : Int) = needS L vol (inC ix []) := by
  unfold needS
  have e : ∀ b, inC ix [] b = false := fun b => rfl
  simp only [e]
  exact sumN_zero.symm
 have h3 := (cutGo_eq (acc := acc) (P := P) (room := room) hix (r := cut) h0 hJ).2
 obtain ⟨z, hz⟩ := rcGo_is (vol := vol) (ix := ix) (r := cut) (o := []) (need := 0) h1 (by simpa using h2)
 have h4 := h3 z hz
 rw [List.nil_append] at h4
 rw [rcB, hz]
 dsimp only
 rw [← have_opn hix h1, h4]
 exact decide_eq_true h
section
variable {y : Yd} {l : List Bt} {w : Rs}
theorem sortZ_mem {l : List Int} {n : Int} : n ∈ sortZ l ↔ n ∈ l := (List.mergeSort_perm l _).mem_iff
theorem cutN_mem {n : Int} : n ∈ cutN l w ↔ ∃ e ∈ w.bs, numF l e.1 = n := by simp [cutN, List.mem_map]
theorem cutN_nodup (hO : LsOk y l) (hb : ∀ e ∈ w.bs, e.1 < l.length) (hn : (w.bs.map fun e => e.1).Nodup) : (cutN l w).Nodup := by
 rw [cutN]
 rw [List.Nodup, List.pairwise_map] at hn ⊢
 refine hn.imp_of_mem fun {a c} ha hc hne he => hne ?_
 have h1 := atI_self hO (hb a ha)
 have h2 := atI_self hO (hb c hc)
 rw [he, h2] at h1
 omega
theorem inC_cut (hO : LsOk y l) (hb : ∀ e ∈ w.bs, e.1 < l.length) {b : Nat} : inC (atI l) (sortZ (cutN l w)) b = hasN w.bs b := by
 rw [Bool.eq_iff_iff, inC, hasN, List.any_eq_true, List.any_eq_true]
 constructor
 ·rintro ⟨n, hn, he⟩
  rw [sortZ_mem, cutN_mem] at hn
  obtain ⟨e, hm, rfl⟩ := hn
  rw [atI_self hO (hb e hm)] at he
  exact ⟨e, hm, by have := eq_of_beq he; simp; omega⟩
 ·rintro ⟨e, hm, he⟩
  refine ⟨numF l e.1, by rw [sortZ_mem, cutN_mem]; exact ⟨e, hm, rfl⟩, ?_⟩
  rw [atI_self hO (hb e hm)]
  have : e.1 = b := by simpa using he
  rw [this]; simp
end
end Go.Proofs.Try
end

section
namespace Go.Proofs.Try
open Go Go.Vm
set_option maxRecDepth 20000
section
variable {y z : Yd} {l : List Bt}
theorem sim_done (h : Sim y z) {fl fz : List (List Int)} (hf : FlOk (accF y l) y.pits.length l.length (volF y l) (roomF y) fl) (hs : ∀ p, p < y.pits.length → Shut (accF y l) y.pits.length l.length (volF y l) (roomF y) fl p)
 (hz : FlOk (accF z l) z.pits.length l.length (volF z l) (roomF z) fz) (hr : ∀ p, p < y.pits.length → (roomF z).getD p 0 ≤ (roomF y).getD p 0) (hd : doneF l.length (volF z l) fz = true) : doneF l.length (volF y l) fl = true := by
 cases hdy : doneF l.length (volF y l) fl with
 | true => rfl
 | false =>
  obtain ⟨w, -, -, h1⟩ := is_cut hf hs hdy (Nat.le_refl l.length)
  rw [h.vol] at hd
  have := no_cut (h.flow hz hr) hd (hasN w.bs)
  omega
end
def lowP (p : Pt) (t : Int) : Pt := { p with top := t }
def lowY (y : Yd) (i : Nat) (p : Pt) (t : Int) : Yd := { y with pits := y.pits.set i (lowP p t) }
theorem low_sim {y : Yd} {i : Nat} {p : Pt} {t : Int} (hp : y.pits[i]? = some p) : Sim y (lowY y i p t) := by
 refine ⟨by simp [lowY], fun j a b ha hb => ?_, rfl, rfl, rfl⟩
 simp only [lowY, List.getElem?_set] at hb
 split at hb
 ·rename_i e
  subst e
  rw [hp] at ha
  split at hb
  ·cases ha; cases hb; exact ⟨rfl, rfl⟩
  ·cases hb
 ·rw [ha] at hb; cases hb; exact ⟨rfl, rfl⟩
theorem low_room {y : Yd} {i : Nat} {p : Pt} {t : Int} (hp : y.pits[i]? = some p) (ha : 0 ≤ p.area) (ht : t ≤ p.top) (q : Nat) : (roomF (lowY y i p t)).getD q 0 ≤ (roomF y).getD q 0 := by
 rw [roomF, roomF, List.getD_eq_getElem?_getD, List.getD_eq_getElem?_getD, List.getElem?_map, List.getElem?_map]
 show (Option.map _ ((y.pits.set i (lowP p t))[q]?)).getD 0 ≤ _
 rw [List.getElem?_set]
 split
 ·rename_i e
  subst e
  rw [hp, if_pos (lt_of_some hp)]
  simp only [Option.map_some, Option.getD_some]
  have h1 : capS (lowP p t) ≤ capS p := by
   unfold capS lowP
   exact Int.mul_le_mul_of_nonneg_left (by dsimp only; omega) ha
  have h2 : takS (lowP p t).name (lowY y i p t).deps = takS p.name y.deps := rfl
  unfold roomS
  rw [h2]; omega
 ·cases y.pits[q]? with
  | none => simp
  | some r => exact Int.le_refl _
/-! Dearer pits. -/
section
variable {y : Yd} {l : List Bt} {c d : Nat → Int}
end
end Go.Proofs.Try
end

section
namespace Go.Proofs.Try
open Go Go.Vm
set_option maxRecDepth 20000
set_option maxHeartbeats 8000000
theorem xv_Copied (y : Yd) (h1 : y.pits.length ≤ 1000) (h2 : y.bulk.length ≤ 1000) (h3 : y.deps.length ≤ 1000) (h4 : y.carry.length ≤ 1000) (hcl : ∀ p ∈ y.pits, p.cls.length ≤ 100000) :
 EvX Try.prog 8 [.d (ydD y)] [] (.agg [.own 9 6 (y.pits.map ptD).length, .own 2009 3 (y.bulk.map bkD).length, .own 4009 3 (y.deps.map dpD).length, .d (.sl 1 (y.carry.map iD))]) [(9, .row 34 6 (y.pits.map ptD) false), (2009, .row 45 3 (y.bulk.map bkD) false), (4009, .row 47 3 (y.deps.map dpD) false)] := by
 have hlp : (y.pits.map ptD).length = y.pits.length := List.length_map _
 have hlb : (y.bulk.map bkD).length = y.bulk.length := List.length_map _
 have hld : (y.deps.map dpD).length = y.deps.length := List.length_map _
 have hlc : (y.carry.map iD).length = y.carry.length := List.length_map _
 have hC := ev_CopyInts9 y.carry (by omega)
 refine evx_of_awp tysOk mixed (fn := Try.f8) Try.func8 rfl rfl rfl ?_
 conv => whnf
 repeat' (first|((with_reducible refine Need.mk ?_ ?_);(first|omega|rfl|decide|(refine ⟨?_,?_⟩<;>simp<;>omega)|(simp;omega));conv=>whnf)|fail)
 refine LoopK.o2 (fun i : Nat => i ≤ y.pits.length) (fun i => [(4, .d (.int .i64 i))]) (fun i => [(1, .var [.own 200 6 ((y.pits.take i).map ptD).length, .d (.sl 3 (y.bulk.map bkD)), .d (.sl 3 (y.deps.map dpD)), .d (.sl 1 (y.carry.map iD))] false), (200, .row 34 6 ((y.pits.take i).map ptD) false)]) (fun i => y.pits.length - i) 0 (by omega) (by refine ⟨?_, ?_, rfl⟩<;>(repeat' (first|exact True.intro|exact rfl|(refine ⟨?_,?_⟩)|(intro h;cases h;done)|fail));done) ?_
 rintro i hi
 have htl : ((y.pits.take i).map ptD).length = i := by simp; omega
 by_cases hil : i < y.pits.length
 ·obtain ⟨p, hp⟩ := some_of_lt hil
  have hc := ev_CopyInts9 p.cls (Nat.le_trans (hcl p (List.mem_of_getElem? hp)) (by decide))
  have hmp1 : (y.pits.take i).map ptD ++ ptD p :: List.replicate 0 (ptD p) = (y.pits.take (i + 1)).map ptD := by rw [take_snoc hp]; simp
  have hmp2 : (y.pits.take i).map ptD ++ [ptD p] = (y.pits.take (i + 1)).map ptD := by rw [take_snoc hp]; simp
  conv => whnf
  repeat' (first|((refine PickE.map i hp (by omega) ?_);conv=>whnf)|((with_reducible refine Split.dec (fun _=>?_) (fun _=>?_))<;>conv=>whnf)|((with_reducible refine Need.mk ?_ ?_);(first|omega|rfl|decide|(refine ⟨?_,?_⟩<;>simp<;>omega)|(simp;omega));conv=>whnf)|((with_reducible refine Wr.inr ?_ ?_);(first|omega|(simp;omega));conv=>whnf)|((with_reducible refine AltK.l ?_);(conv=>whnf);(first|(refine CallK.mk _ (hc) ?_));conv=>whnf)|(exfalso;first|omega|contradiction)|fail)
  exact Again.au (i + 1) (by omega) (by omega) (by refine ⟨?_, ?_, rfl⟩<;>(repeat' (first|exact True.intro|exact rfl|(refine ⟨?_,?_⟩)|(intro h;cases h;done)|exact hmp1|((first|refine own_congr ?_|refine int_congr ?_);simp [List.length_map];omega)|fail));done)
 ·have e : y.pits.take i = y.pits := List.take_of_length_le (by omega)
  rw [e] at htl ⊢
  conv => whnf
  repeat' (first|((with_reducible refine Split.dec (fun _=>?_) (fun _=>?_))<;>conv=>whnf)|((with_reducible refine Need.mk ?_ ?_);(first|omega|rfl|decide|(refine ⟨?_,?_⟩<;>simp<;>omega)|(simp;omega));conv=>whnf)|((with_reducible refine AltK.l ?_);(conv=>whnf);(first|(refine CallK.mk _ (hC) ?_));conv=>whnf)|(exfalso;first|omega|contradiction)|fail)
  exact ⟨⟨[(9, some 200), (2009, some 32), (4009, some 37)], (by refine ⟨?_, ?_, rfl⟩<;>(repeat' (first|exact True.intro|exact rfl|(refine ⟨?_,?_⟩)|(intro h;cases h;done)|(refine own_congr ?_;simp;done)|fail));done)⟩, rfl⟩
def tpNear : ByteArray := ⟨#[78, 101, 97, 114]⟩
def tpFar : ByteArray := ⟨#[70, 97, 114]⟩
def tpSand : ByteArray := ⟨#[115, 97, 110, 100]⟩
def tpY : Yd := ⟨[⟨tpNear, 10000, -500, -450, [0], 100⟩, ⟨tpFar, 10000, -900, -800, [0, 1], 400⟩], [⟨tpSand, 6, 5⟩], [], [0]⟩
def tpL : List Bt := [⟨1, 500001, 0, tpSand, 0⟩, ⟨2, 300003, 1000, tpSand, 1⟩]
def tpX : List Al := [⟨1, tpNear, 500000⟩, ⟨1, tpFar, 100001⟩, ⟨2, tpFar, 358803⟩]
theorem ev_tip : Ev Try.prog 14 [] (ydD tpY) := by
 refine ev_of_awp tysOk mixed (fn := Try.f14) Try.func14 rfl rfl rfl ?_
 conv => whnf
 repeat' (first|((with_reducible refine Need.mk ?_ ?_);(first|omega|rfl|decide|(refine ⟨?_,?_⟩<;>simp<;>omega)|(simp;omega));conv=>whnf)|fail)
 rfl
theorem ev_loads : Ev Try.prog 15 [] (.sl 5 (tpL.map btD)) := by
 refine ev_of_awp tysOk mixed (fn := Try.f15) Try.func15 rfl rfl rfl ?_
 conv => whnf
 skip
 rfl
theorem tp_small : smallP tpY := fun p hp => by
 simp only [tpY, List.mem_cons, List.mem_nil_iff, or_false] at hp
 rcases hp with rfl | rfl <;> simp
theorem tp_ok : lstE tpY tpL = 0 := by decide +kernel
theorem tp_chr : Chr (accF tpY tpL) (atI tpL) (pitI tpY) tpY.pits.length tpL.length (fun b => (volF tpY tpL).getD b 0) (fun p => (roomF tpY).getD p 0) [] tpX :=
 (asg_chr9 (ls_ok tp_ok) tpX).1 (by decide +kernel)
def tfewB (l : List Bt) (most : Nat) : Bool := (l.all fun b => decide (b.soil.size ≤ 40)) && decide (l.length ≤ most)
theorem ev_tfew (l : List Bt) (most : Nat) (hn : l.length ≤ 9223372036854775807) : Ev Try.prog 17 [.sl 5 (l.map btD), iD most] (.bool (tfewB l most)) := by
 have hll : (l.map btD).length = l.length := List.length_map _
 unfold tfewB
 refine ev_of_awp tysOk mixed (fn := Try.f17) Try.func17 rfl rfl rfl ?_
 conv => whnf
 skip
 refine LoopK.o2 (fun i : Nat => i ≤ l.length ∧ (l.take i).all (fun b => decide (b.soil.size ≤ 40)) = true) (fun i => [(5, .d (.int .i64 i))]) (fun _ => []) (fun i => l.length - i) 0 ⟨by omega, rfl⟩ (by refine ⟨?_, ?_, rfl⟩<;>(repeat' (first|exact True.intro|exact rfl|(refine ⟨?_,?_⟩)|fail));done) ?_
 rintro i ⟨hi, hp⟩
 by_cases hil : i < l.length
 ·obtain ⟨b, hb⟩ := some_of_lt hil
  conv => whnf
  repeat' (first|((refine PickE.map i hb (by omega) ?_);conv=>whnf)|((with_reducible refine Split.dec (fun _=>?_) (fun _=>?_))<;>conv=>whnf)|((with_reducible refine Need.mk ?_ ?_);(first|omega|rfl|decide|(refine ⟨?_,?_⟩<;>simp<;>omega)|(simp;omega));conv=>whnf)|((with_reducible refine Wr.inr ?_ ?_);(first|omega|(simp;omega));conv=>whnf)|(exfalso;first|omega|contradiction)|fail)
  all_goals first
   |(rw [all_not9 hb (by simp; omega)]; rfl)
   | exact Again.au (i + 1) ⟨by omega, all_snoc9 hb hp (by simp;omega)⟩ (by omega) (by refine ⟨?_, ?_, rfl⟩<;>(repeat' (first|exact True.intro|exact rfl|(refine ⟨?_,?_⟩)|fail));done)
 ·rw [List.take_of_length_le (show l.length ≤ i by omega)] at hp
  rw [hp]
  conv => whnf
  repeat' (first|((with_reducible refine Split.dec (fun _=>?_) (fun _=>?_))<;>conv=>whnf)|((with_reducible refine Need.mk ?_ ?_);(first|omega|rfl|decide|(refine ⟨?_,?_⟩<;>simp<;>omega)|(simp;omega));conv=>whnf)|(exfalso;first|omega|contradiction)|fail)
  simp only [retOf, D.bool.injEq, Bool.true_and, decide_eq_decide]; omega
end Go.Proofs.Try
end

section
namespace Go.Proofs.Try
open Go Go.Vm
set_option maxRecDepth 20000
set_option maxHeartbeats 8000000
theorem assign_says {y : Yd} {l : List Bt} (hs : smallP y) (h0 : lstE y l = 0) : ∃ (dn : Bool) (xs : List Al) (cut : List Int), xs.length ≤ 96 ∧ cut.length ≤ 12 ∧
 Ev Try.prog 23 [ydD y, .sl 5 (l.map btD)] (.tup [.sl 3 (xs.map alD), .sl 1 (cut.map iD), iD (if dn = true then 0 else 19)]) ∧
 (dn = true → cut = [] ∧ asgB (accF y l) (atI l) (pitI y) (volF y l) (roomF y) xs = true ∧ ∀ c, cutB (accF y l) y.pits.length (volF y l) (roomF y) (atI l) c = false) ∧
 (dn = false → xs = [] ∧ cutB (accF y l) y.pits.length (volF y l) (roomF y) (atI l) cut = true ∧ ∀ x, asgB (accF y l) (atI l) (pitI y) (volF y l) (roomF y) x = false) ∧
 ∃ fl, FlOk (accF y l) y.pits.length l.length (volF y l) (roomF y) fl ∧ (∀ p, p < y.pits.length → Shut (accF y l) y.pits.length l.length (volF y l) (roomF y) fl p) ∧ doneF l.length (volF y l) fl = dn := by
 have hO := ls_ok h0
 have hy := yd_ok hO.yd
 have hlen := hO.len
 obtain ⟨fl, k, w, hk, hf, hsh, hw, h5⟩ := ev_AssignRun hs h0
 cases hd : doneF l.length (volF y l) fl with
 | true =>
  rw [hd, if_pos rfl, if_pos rfl, if_pos rfl] at h5
  have hAl := allF_len (l := l) (fl := fl) hy.pits l.length
  refine ⟨true, allF y l fl l.length, [], by omega, by simp, h5, fun _ => ⟨rfl, (asg_chr9 hO _).2 (all_chr hO hf hd), fun c => ?_⟩, fun h => absurd h (by decide), fl, hf, hsh, hd⟩
  cases hc : cutB (accF y l) y.pits.length (volF y l) (roomF y) (atI l) c with
  | false => rfl
  | true =>
   have h1 := cut_says atI_ok hc
   have := no_cut hf hd (inC (atI l) c)
   omega
 | false =>
  obtain ⟨hI, hcut⟩ := hw hd
  rw [hd, if_neg (by decide), if_neg (by decide), if_neg (by decide)] at h5
  have hnd := cutN_nodup (w := w) hO hI.bl hI.bn
  refine ⟨false, [], sortZ (cutN l w), by simp, ?_, h5, fun h => absurd h (by decide), fun _ => ⟨rfl, ?_, fun x => ?_⟩, fl, hf, hsh, hd⟩
  ·rw [sortZ_len, cutN, List.length_map]
   have := hI.len; omega
  ·refine cut_is atI_ok (fun n hn => ?_) ((List.mergeSort_perm (cutN l w) _).nodup_iff.2 hnd) ?_
   ·rw [sortZ_mem, cutN_mem] at hn
    obtain ⟨e, hm, rfl⟩ := hn
    rw [atI_self hO (hI.bl e hm)]; omega
   ·have e : inC (atI l) (sortZ (cutN l w)) = hasN w.bs := funext fun b => inC_cut hO hI.bl
    rw [e]; exact hcut
  ·cases hx : asgB (accF y l) (atI l) (pitI y) (volF y l) (roomF y) x with
   | false => rfl
   | true =>
    have := chr_done hf hsh ((asg_chr9 hO x).1 hx)
    rw [hd] at this; cases this
theorem ev_TopFlowIsCut (y : Yd) (l : List Bt) (xs : List Al) (cut : List Int) (pit part : Int) (hpit : 0 ≤ pit ∧ pit ≤ 255) (hpart : 0 ≤ part ∧ part ≤ 255) (hln : l.length ≤ 9223372036854775807) :
 Ev Try.prog 5 [ydD y, .sl 5 (l.map btD), .agg [.sl 3 (xs.map alD), .sl 1 (cut.map iD), .int .u8 pit, .int .u8 part]] (.bool true) := by
 have g1 := ev_tip
 have g2 := ev_loads
 obtain ⟨dt, xt, ct, b1, b2, g3, t1, t2, -⟩ := assign_says tp_small tp_ok
 cases dt with
 | false =>
  have := (t2 rfl).2.2 tpX
  rw [(asg_chr9 (ls_ok tp_ok) tpX).2 tp_chr] at this
  cases this
 | true =>
 obtain ⟨rfl, ha, -⟩ := t1 rfl
 have g4 := ev_CheckShares tp_small tp_ok xt (by omega)
 rw [ha, if_pos rfl] at g4
 rw [if_pos rfl] at g3
 clear t1 t2 ha
 have h1 := ev_Small y
 have h2 := ev_tfew l 5 hln
 have hlx : (xs.map alD).length = xs.length := List.length_map _
 have hlc : (cut.map iD).length = cut.length := List.length_map _
 have hlp : (y.pits.map ptD).length = y.pits.length := List.length_map _
 have hll : (l.map btD).length = l.length := List.length_map _
 cases hs : smallB y with
 | false =>
  rw [hs] at h1
  refine ev_of_awp tysOk mixed (fn := Try.f5) Try.func5 rfl rfl rfl ?_
  conv => whnf
  repeat' (first|((with_reducible first|refine Split.of_true ?_|refine Split.of_false ?_);conv=>whnf)|(with_reducible refine Split.neg ?_)|((with_reducible refine Split.is_false ?_ ?_);decide;conv=>whnf)|((with_reducible refine AltK.l ?_);(conv=>whnf);(first|(refine CallK.mk _ (g1) ?_)|(refine CallK.mk _ (g2) ?_)|(refine CallK.mk _ (g3) ?_)|(refine CallK.mk _ (g4) ?_)|(refine CallK.mk _ (h1) ?_)|(refine CallK.mk _ (h2) ?_));conv=>whnf)|fail)
  all_goals first
   | rfl
   |(simp [retOf]; done)
   |(exfalso; omega)
 | true =>
 rw [hs] at h1
 have hB := smB hs
 cases hfw : tfewB l 5 with
 | false =>
  rw [hfw] at h2
  refine ev_of_awp tysOk mixed (fn := Try.f5) Try.func5 rfl rfl rfl ?_
  conv => whnf
  repeat' (first|((with_reducible first|refine Split.of_true ?_|refine Split.of_false ?_);conv=>whnf)|(with_reducible refine Split.neg ?_)|((with_reducible refine Split.is_false ?_ ?_);decide;conv=>whnf)|((with_reducible refine AltK.l ?_);(conv=>whnf);(first|(refine CallK.mk _ (g1) ?_)|(refine CallK.mk _ (g2) ?_)|(refine CallK.mk _ (g3) ?_)|(refine CallK.mk _ (g4) ?_)|(refine CallK.mk _ (h1) ?_)|(refine CallK.mk _ (h2) ?_));conv=>whnf)|fail)
  all_goals first
   | rfl
   |(simp [retOf]; done)
   |(exfalso; omega)
 | true =>
 rw [hfw] at h2
 have hl5 : l.length ≤ 5 := by
  simp only [tfewB, Bool.and_eq_true, decide_eq_true_eq] at hfw
  exact hfw.2
 by_cases hbig : 20 < xs.length ∨ 20 < cut.length
 ·refine ev_of_awp tysOk mixed (fn := Try.f5) Try.func5 rfl rfl rfl ?_
  conv => whnf
  repeat' (first|((with_reducible refine Split.of_true ?_);conv=>whnf)|(with_reducible refine Split.neg ?_)|((with_reducible refine Split.is_false ?_ ?_);decide;conv=>whnf)|((with_reducible refine Split.dec (fun _=>?_) (fun _=>?_))<;>conv=>whnf)|((with_reducible refine AltK.l ?_);(conv=>whnf);(first|(refine CallK.mk _ (g1) ?_)|(refine CallK.mk _ (g2) ?_)|(refine CallK.mk _ (g3) ?_)|(refine CallK.mk _ (g4) ?_)|(refine CallK.mk _ (h1) ?_)|(refine CallK.mk _ (h2) ?_));conv=>whnf)|(exfalso;first|omega|contradiction)|fail)
  all_goals first
   | rfl
   |(simp [retOf]; done)
   |(exfalso; omega)
 have b3 := hB.b
 have b4 := hB.d
 have h3 := ev_DCheckR y hB.sp
 by_cases hy0 : ydErr y = 0
 case neg =>
  generalize ydErr y = e at *
  refine ev_of_awp tysOk mixed (fn := Try.f5) Try.func5 rfl rfl rfl ?_
  conv => whnf
  repeat' (first|((with_reducible refine Split.of_true ?_);conv=>whnf)|(with_reducible refine Split.neg ?_)|((with_reducible refine Split.is_false ?_ ?_);decide;conv=>whnf)|((with_reducible refine Split.nez (fun _=>?_) (fun _=>?_))<;>conv=>whnf)|((with_reducible refine Split.dec (fun _=>?_) (fun _=>?_))<;>conv=>whnf)|((with_reducible refine AltK.l ?_);(conv=>whnf);(first|(refine CallK.mk _ (g1) ?_)|(refine CallK.mk _ (g2) ?_)|(refine CallK.mk _ (g3) ?_)|(refine CallK.mk _ (g4) ?_)|(refine CallK.mk _ (h1) ?_)|(refine CallK.mk _ (h2) ?_)|(refine CallK.mk _ (h3) ?_));conv=>whnf)|(exfalso;first|omega|contradiction)|fail)
  all_goals first
   | rfl
   |(simp [retOf]; done)
   |(exfalso; omega)
 rw [hy0] at h3
 have h4 := ev_ListErr y l 12 true (by omega) (by omega) (by omega)
 have hle : lstE y l = (if 12 < l.length then 8 else Try.lsGo y (fun n => true && depB y n) [] l) := by
  simp only [lstE, lsErr, hy0, Bool.true_and]
  rfl
 rw [← hle] at h4
 by_cases h0 : lstE y l = 0
 case neg =>
  generalize lstE y l = e at *
  refine ev_of_awp tysOk mixed (fn := Try.f5) Try.func5 rfl rfl rfl ?_
  conv => whnf
  repeat' (first|((with_reducible refine Split.of_true ?_);conv=>whnf)|(with_reducible refine Split.neg ?_)|((with_reducible refine Split.is_false ?_ ?_);decide;conv=>whnf)|((with_reducible refine Split.nez (fun _=>?_) (fun _=>?_))<;>conv=>whnf)|((with_reducible refine Split.dec (fun _=>?_) (fun _=>?_))<;>conv=>whnf)|((with_reducible refine AltK.l ?_);(conv=>whnf);(first|(refine CallK.mk _ (g1) ?_)|(refine CallK.mk _ (g2) ?_)|(refine CallK.mk _ (g3) ?_)|(refine CallK.mk _ (g4) ?_)|(refine CallK.mk _ (h1) ?_)|(refine CallK.mk _ (h2) ?_)|(refine CallK.mk _ (h3) ?_)|(refine CallK.mk _ (h4) ?_));conv=>whnf)|(exfalso;first|omega|contradiction)|fail)
  all_goals first
   | rfl
   |(simp [retOf]; done)
   |(exfalso; omega)
 clear hle
 rw [h0] at h4
 have hO := ls_ok h0
 have hy := yd_ok hy0
 obtain ⟨dn, xa, ca, n1, n2, h5, d1, d2, fl, hf, hsh, hd⟩ := assign_says hB.sp h0
 have h6 := ev_CheckShares hB.sp h0 xa (by omega)
 have h7 := ev_CheckCut hB.sp h0 (cut := cut) (by omega)
 have h8 := ev_CheckCut hB.sp h0 (cut := ca) (by omega)
 have h9 := ev_CheckShares hB.sp h0 xs (by omega)
 by_cases hp0 : y.pits.length = 0
 ·cases dn with
  | true =>
   obtain ⟨rfl, e1, e2⟩ := d1 rfl
   rw [e1, if_pos rfl] at h6
   rw [e2 cut, if_neg (by decide)] at h7
   rw [if_pos rfl] at h5
   clear d1 d2
   refine ev_of_awp tysOk mixed (fn := Try.f5) Try.func5 rfl rfl rfl ?_
   conv => whnf
   repeat' (first|((with_reducible refine Split.of_true ?_);conv=>whnf)|(with_reducible refine Split.neg ?_)|((with_reducible refine Split.is_true ?_ ?_);decide;conv=>whnf)|((with_reducible refine Split.is_false ?_ ?_);decide;conv=>whnf)|((with_reducible refine Split.eqz (fun _=>?_) (fun _=>?_))<;>conv=>whnf)|((with_reducible refine Split.dec (fun _=>?_) (fun _=>?_))<;>conv=>whnf)|((with_reducible refine AltK.l ?_);(conv=>whnf);(first|(refine CallK.mk _ (g1) ?_)|(refine CallK.mk _ (g2) ?_)|(refine CallK.mk _ (g3) ?_)|(refine CallK.mk _ (g4) ?_)|(refine CallK.mk _ (h1) ?_)|(refine CallK.mk _ (h2) ?_)|(refine CallK.mk _ (h3) ?_)|(refine CallK.mk _ (h4) ?_)|(refine CallK.mk _ (h5) ?_)|(refine CallK.mk _ (h6) ?_)|(refine CallK.mk _ (h7) ?_));conv=>whnf)|(exfalso;first|omega|contradiction)|fail)
   all_goals first
    | rfl
    |(simp [retOf]; done)
    |(exfalso; omega)
  | false =>
   obtain ⟨rfl, e1, e2⟩ := d2 rfl
   rw [e1, if_pos rfl] at h8
   rw [e2 xs, if_neg (by decide)] at h9
   rw [if_neg (by decide)] at h5
   clear d1 d2
   refine ev_of_awp tysOk mixed (fn := Try.f5) Try.func5 rfl rfl rfl ?_
   conv => whnf
   repeat' (first|((with_reducible refine Split.of_true ?_);conv=>whnf)|(with_reducible refine Split.neg ?_)|((with_reducible refine Split.is_true ?_ ?_);decide;conv=>whnf)|((with_reducible refine Split.is_false ?_ ?_);decide;conv=>whnf)|((with_reducible refine Split.eqz (fun _=>?_) (fun _=>?_))<;>conv=>whnf)|((with_reducible refine Split.dec (fun _=>?_) (fun _=>?_))<;>conv=>whnf)|((with_reducible refine AltK.l ?_);(conv=>whnf);(first|(refine CallK.mk _ (g1) ?_)|(refine CallK.mk _ (g2) ?_)|(refine CallK.mk _ (g3) ?_)|(refine CallK.mk _ (g4) ?_)|(refine CallK.mk _ (h1) ?_)|(refine CallK.mk _ (h2) ?_)|(refine CallK.mk _ (h3) ?_)|(refine CallK.mk _ (h4) ?_)|(refine CallK.mk _ (h5) ?_)|(refine CallK.mk _ (h8) ?_)|(refine CallK.mk _ (h9) ?_));conv=>whnf)|(exfalso;first|omega|contradiction)|fail)
   all_goals first
    | rfl
    |(simp [retOf]; done)
    |(exfalso; omega)
 have hl0 : ((y.pits.map ptD).length : Int) ≠ 0 := by omega
 obtain ⟨i, hi⟩ : ∃ i : Int, i = pit.tmod ((y.pits.map ptD).length : Int) := ⟨_, rfl⟩
 have hi2 : i = pit % (y.pits.length : Int) := by rw [hi, hlp, Int.tmod_eq_emod_of_nonneg hpit.1]
 have hi0 : 0 ≤ i := by rw [hi2]; exact Int.emod_nonneg _ (by omega)
 have hi1 : i < y.pits.length := by rw [hi2]; exact Int.emod_lt_of_pos _ (by omega)
 obtain ⟨p, hp⟩ := some_of_lt (show i.toNat < y.pits.length by omega)
 have hpk := (hy.pit p (List.mem_of_getElem? hp)).1
 have hP8 := hy.pits
 have q1 := hpk.base
 have q2 := hpk.top
 have q3 := hpk.up
 have hm1 : 0 ≤ (p.top - p.base) * (1 + part) := Int.mul_nonneg (by omega) (by omega)
 have hm2 : (p.top - p.base) * (1 + part) ≤ (p.top - p.base) * 256 := Int.mul_le_mul_of_nonneg_left (by omega) (by omega)
 obtain ⟨t, ht⟩ : ∃ t : Int, t = p.base + maxI 1 ((p.top - p.base) * (1 + part) / 256) := ⟨_, rfl⟩
 have ht1 : p.base < t ∧ t ≤ p.top := by
  have h1 : 0 ≤ (p.top - p.base) * (1 + part) / 256 := Int.ediv_nonneg hm1 (by decide)
  have h2 : (p.top - p.base) * (1 + part) / 256 ≤ p.top - p.base := Int.le_of_lt_add_one (Int.ediv_lt_of_lt_mul (by decide) (by omega))
  rw [ht, maxI]
  split <;> omega
 have hS := low_sim (t := t) hp
 have hz : ydD (lowY y i.toNat p t) = .agg [.sl 6 ((y.pits.map ptD).set i.toNat (.agg [.str p.name, iD p.area, iD p.base, iD t, .sl 1 (p.cls.map iD), iD p.price])), .sl 3 (y.bulk.map bkD), .sl 3 (y.deps.map dpD), .sl 1 (y.carry.map iD)] := by
  show D.agg [.sl 6 ((y.pits.set i.toNat (lowP p t)).map ptD), _, _, _] = _
  rw [List.map_set]; rfl
 have hsz : smallP (lowY y i.toNat p t) := fun q hq => by
  obtain ⟨j, hj⟩ := List.getElem?_of_mem hq
  obtain ⟨r, hr⟩ := some_of_lt (show j < y.pits.length by have := lt_of_some hj; have := hS.len; omega)
  rw [(hS.pit j r q hr hj).2]
  exact hB.sp r (List.mem_of_getElem? hr)
 have hC := (xv_Copied y (by omega) (by omega) (by omega) (by have := hB.c; omega) (fun q hq => Nat.le_trans (hB.cl q hq) (by decide))).rn [(9, 110), (2009, 2110), (4009, 4110)] rfl
 have hD := ev_DCheckR (lowY y i.toNat p t) hsz
 have hpD : (y.pits.map ptD)[i.toNat]? = some (.agg [.str p.name, iD p.area, iD p.base, iD p.top, .sl 1 (p.cls.map iD), iD p.price]) := by rw [List.getElem?_map, hp]; rfl
 rw [hz] at hD
 have hE : ydErr (lowY y i.toNat p t) = 0 → ∃ (dz : Bool) (xz : List Al) (cz : List Int), Ev Try.prog 23 [ydD (lowY y i.toNat p t), .sl 5 (l.map btD)] (.tup [.sl 3 (xz.map alD), .sl 1 (cz.map iD), iD (if dz = true then 0 else 19)]) ∧ (dz = true → dn = true) := fun h => by
  obtain ⟨dz, xz, cz, -, -, h1, -, -, fz, z1, -, z3⟩ := assign_says hsz ((hS.lst hy0 h).trans h0)
  refine ⟨dz, xz, cz, h1, fun hdz => ?_⟩
  rw [hdz] at z3
  rw [← hd]
  exact sim_done hS hf hsh z1 (fun q _ => low_room hp (by have := hpk.area; omega) ht1.2 q) z3
 rw [hz] at hE
 generalize ydErr (lowY y i.toNat p t) = ez at *
 clear hz hsz hS hd hsh hf
 subst ht
 have hi3 : i.toNat < y.pits.length := by omega
 by_cases hez : ez = 0
 case neg =>
  cases dn with
  | true =>
   obtain ⟨rfl, e1, e2⟩ := d1 rfl
   rw [e1, if_pos rfl] at h6
   rw [e2 cut, if_neg (by decide)] at h7
   rw [if_pos rfl] at h5
   clear d1 d2 hE
   subst hi
   refine ev_of_awp tysOk mixed (fn := Try.f5) Try.func5 rfl rfl rfl ?_
   conv => whnf
   repeat' (first|((refine PickE.mk _ hpD ?_);conv=>whnf)|((with_reducible refine Split.of_true ?_);conv=>whnf)|(with_reducible refine Split.neg ?_)|((with_reducible refine Split.is_true ?_ ?_);decide;conv=>whnf)|((with_reducible refine Split.is_false ?_ ?_);decide;conv=>whnf)|((with_reducible refine Split.nez (fun _=>?_) (fun _=>?_))<;>conv=>whnf)|((with_reducible refine Split.eqz (fun _=>?_) (fun _=>?_))<;>conv=>whnf)|((with_reducible refine Split.dec (fun _=>?_) (fun _=>?_))<;>conv=>whnf)|((with_reducible refine Need.mk ?_ ?_);(first|omega|rfl|decide|(refine ⟨?_,?_⟩<;>simp<;>omega)|(simp;omega));conv=>whnf)|((with_reducible refine Wr.quo ?_ ?_ ?_ ?_);omega;omega;omega;conv=>whnf)|((with_reducible refine Wr.inr ?_ ?_);(first|omega|(simp;omega));conv=>whnf)|((with_reducible refine AltK.r ?_);(conv=>whnf);(first|(refine CallX.mk _ _ (hC) rfl ?_));conv=>whnf)|((with_reducible refine AltK.l ?_);(conv=>whnf);(first|(refine CallK.mk _ (g1) ?_)|(refine CallK.mk _ (g2) ?_)|(refine CallK.mk _ (g3) ?_)|(refine CallK.mk _ (g4) ?_)|(refine CallK.mk _ (h1) ?_)|(refine CallK.mk _ (h2) ?_)|(refine CallK.mk _ (h3) ?_)|(refine CallK.mk _ (h4) ?_)|(refine CallK.mk _ (h5) ?_)|(refine CallK.mk _ (h6) ?_)|(refine CallK.mk _ (h7) ?_)|(refine CallK.mk _ (hD) ?_));conv=>whnf)|(exfalso;first|omega|contradiction)|fail)
   all_goals first
    | rfl
    |(simp [retOf]; done)
    |(exfalso; omega)
  | false =>
   obtain ⟨rfl, e1, e2⟩ := d2 rfl
   rw [e1, if_pos rfl] at h8
   rw [e2 xs, if_neg (by decide)] at h9
   rw [if_neg (by decide)] at h5
   clear d1 d2 hE
   subst hi
   refine ev_of_awp tysOk mixed (fn := Try.f5) Try.func5 rfl rfl rfl ?_
   conv => whnf
   repeat' (first|((refine PickE.mk _ hpD ?_);conv=>whnf)|((with_reducible refine Split.of_true ?_);conv=>whnf)|(with_reducible refine Split.neg ?_)|((with_reducible refine Split.is_true ?_ ?_);decide;conv=>whnf)|((with_reducible refine Split.is_false ?_ ?_);decide;conv=>whnf)|((with_reducible refine Split.nez (fun _=>?_) (fun _=>?_))<;>conv=>whnf)|((with_reducible refine Split.eqz (fun _=>?_) (fun _=>?_))<;>conv=>whnf)|((with_reducible refine Split.dec (fun _=>?_) (fun _=>?_))<;>conv=>whnf)|((with_reducible refine Need.mk ?_ ?_);(first|omega|rfl|decide|(refine ⟨?_,?_⟩<;>simp<;>omega)|(simp;omega));conv=>whnf)|((with_reducible refine Wr.quo ?_ ?_ ?_ ?_);omega;omega;omega;conv=>whnf)|((with_reducible refine Wr.inr ?_ ?_);(first|omega|(simp;omega));conv=>whnf)|((with_reducible refine AltK.r ?_);(conv=>whnf);(first|(refine CallX.mk _ _ (hC) rfl ?_));conv=>whnf)|((with_reducible refine AltK.l ?_);(conv=>whnf);(first|(refine CallK.mk _ (g1) ?_)|(refine CallK.mk _ (g2) ?_)|(refine CallK.mk _ (g3) ?_)|(refine CallK.mk _ (g4) ?_)|(refine CallK.mk _ (h1) ?_)|(refine CallK.mk _ (h2) ?_)|(refine CallK.mk _ (h3) ?_)|(refine CallK.mk _ (h4) ?_)|(refine CallK.mk _ (h5) ?_)|(refine CallK.mk _ (h8) ?_)|(refine CallK.mk _ (h9) ?_)|(refine CallK.mk _ (hD) ?_));conv=>whnf)|(exfalso;first|omega|contradiction)|fail)
   all_goals first
    | rfl
    |(simp [retOf]; done)
    |(exfalso; omega)
 obtain ⟨dz, xz, cz, hF, hdz⟩ := hE hez
 subst hez
 cases dn with
 | true =>
  obtain ⟨rfl, e1, e2⟩ := d1 rfl
  rw [e1, if_pos rfl] at h6
  rw [e2 cut, if_neg (by decide)] at h7
  rw [if_pos rfl] at h5
  clear d1 d2 hE hdz
  subst hi
  cases dz with
  | true =>
   rw [if_pos rfl] at hF
   refine ev_of_awp tysOk mixed (fn := Try.f5) Try.func5 rfl rfl rfl ?_
   conv => whnf
   repeat' (first|((refine PickE.mk _ hpD ?_);conv=>whnf)|((with_reducible refine Split.of_true ?_);conv=>whnf)|(with_reducible refine Split.neg ?_)|((with_reducible refine Split.is_true ?_ ?_);decide;conv=>whnf)|((with_reducible refine Split.is_false ?_ ?_);decide;conv=>whnf)|((with_reducible refine Split.eqz (fun _=>?_) (fun _=>?_))<;>conv=>whnf)|((with_reducible refine Split.dec (fun _=>?_) (fun _=>?_))<;>conv=>whnf)|((with_reducible refine Need.mk ?_ ?_);(first|omega|rfl|decide|(refine ⟨?_,?_⟩<;>simp<;>omega)|(simp;omega));conv=>whnf)|((with_reducible refine Wr.quo ?_ ?_ ?_ ?_);omega;omega;omega;conv=>whnf)|((with_reducible refine Wr.inr ?_ ?_);(first|omega|(simp;omega));conv=>whnf)|((with_reducible refine AltK.r ?_);(conv=>whnf);(first|(refine CallX.mk _ _ (hC) rfl ?_));conv=>whnf)|((with_reducible refine AltK.l ?_);(conv=>whnf);(first|(refine CallK.mk _ (g1) ?_)|(refine CallK.mk _ (g2) ?_)|(refine CallK.mk _ (g3) ?_)|(refine CallK.mk _ (g4) ?_)|(refine CallK.mk _ (h1) ?_)|(refine CallK.mk _ (h2) ?_)|(refine CallK.mk _ (h3) ?_)|(refine CallK.mk _ (h4) ?_)|(refine CallK.mk _ (h5) ?_)|(refine CallK.mk _ (h6) ?_)|(refine CallK.mk _ (h7) ?_)|(refine CallK.mk _ (hD) ?_)|(refine CallK.mk _ (hF) ?_));conv=>whnf)|(exfalso;first|omega|contradiction)|fail)
   all_goals first
    | rfl
    |(simp [retOf]; done)
    |(exfalso; omega)
  | false =>
   rw [if_neg (by decide)] at hF
   refine ev_of_awp tysOk mixed (fn := Try.f5) Try.func5 rfl rfl rfl ?_
   conv => whnf
   repeat' (first|((refine PickE.mk _ hpD ?_);conv=>whnf)|((with_reducible refine Split.of_true ?_);conv=>whnf)|(with_reducible refine Split.neg ?_)|((with_reducible refine Split.is_true ?_ ?_);decide;conv=>whnf)|((with_reducible refine Split.is_false ?_ ?_);decide;conv=>whnf)|((with_reducible refine Split.eqz (fun _=>?_) (fun _=>?_))<;>conv=>whnf)|((with_reducible refine Split.dec (fun _=>?_) (fun _=>?_))<;>conv=>whnf)|((with_reducible refine Need.mk ?_ ?_);(first|omega|rfl|decide|(refine ⟨?_,?_⟩<;>simp<;>omega)|(simp;omega));conv=>whnf)|((with_reducible refine Wr.quo ?_ ?_ ?_ ?_);omega;omega;omega;conv=>whnf)|((with_reducible refine Wr.inr ?_ ?_);(first|omega|(simp;omega));conv=>whnf)|((with_reducible refine AltK.r ?_);(conv=>whnf);(first|(refine CallX.mk _ _ (hC) rfl ?_));conv=>whnf)|((with_reducible refine AltK.l ?_);(conv=>whnf);(first|(refine CallK.mk _ (g1) ?_)|(refine CallK.mk _ (g2) ?_)|(refine CallK.mk _ (g3) ?_)|(refine CallK.mk _ (g4) ?_)|(refine CallK.mk _ (h1) ?_)|(refine CallK.mk _ (h2) ?_)|(refine CallK.mk _ (h3) ?_)|(refine CallK.mk _ (h4) ?_)|(refine CallK.mk _ (h5) ?_)|(refine CallK.mk _ (h6) ?_)|(refine CallK.mk _ (h7) ?_)|(refine CallK.mk _ (hD) ?_)|(refine CallK.mk _ (hF) ?_));conv=>whnf)|(exfalso;first|omega|contradiction)|fail)
   all_goals first
    | rfl
    |(simp [retOf]; done)
    |(exfalso; omega)
 | false =>
  cases dz with
  | true => cases hdz rfl
  | false =>
   obtain ⟨rfl, e1, e2⟩ := d2 rfl
   rw [e1, if_pos rfl] at h8
   rw [e2 xs, if_neg (by decide)] at h9
   rw [if_neg (by decide)] at h5 hF
   clear d1 d2 hE hdz
   subst hi
   refine ev_of_awp tysOk mixed (fn := Try.f5) Try.func5 rfl rfl rfl ?_
   conv => whnf
   repeat' (first|((refine PickE.mk _ hpD ?_);conv=>whnf)|((with_reducible refine Split.of_true ?_);conv=>whnf)|(with_reducible refine Split.neg ?_)|((with_reducible refine Split.is_true ?_ ?_);decide;conv=>whnf)|((with_reducible refine Split.is_false ?_ ?_);decide;conv=>whnf)|((with_reducible refine Split.eqz (fun _=>?_) (fun _=>?_))<;>conv=>whnf)|((with_reducible refine Split.dec (fun _=>?_) (fun _=>?_))<;>conv=>whnf)|((with_reducible refine Need.mk ?_ ?_);(first|omega|rfl|decide|(refine ⟨?_,?_⟩<;>simp<;>omega)|(simp;omega));conv=>whnf)|((with_reducible refine Wr.quo ?_ ?_ ?_ ?_);omega;omega;omega;conv=>whnf)|((with_reducible refine Wr.inr ?_ ?_);(first|omega|(simp;omega));conv=>whnf)|((with_reducible refine AltK.r ?_);(conv=>whnf);(first|(refine CallX.mk _ _ (hC) rfl ?_));conv=>whnf)|((with_reducible refine AltK.l ?_);(conv=>whnf);(first|(refine CallK.mk _ (g1) ?_)|(refine CallK.mk _ (g2) ?_)|(refine CallK.mk _ (g3) ?_)|(refine CallK.mk _ (g4) ?_)|(refine CallK.mk _ (h1) ?_)|(refine CallK.mk _ (h2) ?_)|(refine CallK.mk _ (h3) ?_)|(refine CallK.mk _ (h4) ?_)|(refine CallK.mk _ (h5) ?_)|(refine CallK.mk _ (h8) ?_)|(refine CallK.mk _ (h9) ?_)|(refine CallK.mk _ (hD) ?_)|(refine CallK.mk _ (hF) ?_));conv=>whnf)|(exfalso;first|omega|contradiction)|fail)
   all_goals first
    | rfl
    |(simp [retOf]; done)
    |(exfalso; omega)
end Go.Proofs.Try
end

section
namespace Go.Proofs.Try
open Go Go.Vm
theorem int_of {k : IntKind} {d : D} (h : Ty (.int k) d) : ∃ n, d = .int k n ∧ (Lit.int k n).wf = true := by cases h; exact ⟨_, rfl, by assumption⟩
theorem str_of {d : D} (h : Ty .str d) : ∃ s, d = .str s ∧ s.size ≤ 9223372036854775807 := by
 cases h with
 | str s h => exact ⟨_, rfl, h⟩
theorem sl_of {agg : Bool} {cs : List Cs} {d : D} (h : Ty (.sl agg cs) d) : ∃ es, d = .sl cs.length es ∧ (∀ e ∈ es, TyV (agg, cs) e) ∧ es.length ≤ 9223372036854775807 := by
 cases h with
 | sl hk hl h hn => exact ⟨_, rfl, fun e he => ⟨hk e he, hl e he, h e he⟩, hn⟩
theorem agg_of {cs : List Cs} {d : D} (h : TyV (true, cs) d) : ∃ ds, d = .agg ds ∧ ds.length = cs.length ∧ ∀ (j : Nat) c e, cs[j]? = some c → ds[j]? = some e → Ty c e := by
 obtain ⟨ds, rfl⟩ := h.1.1 rfl
 exact ⟨ds, rfl, h.2.1, h.2.2⟩
theorem one_of {c : Cs} {d : D} (h : TyV (false, [c]) d) : Ty c d := by
 have h1 := h.1.2 rfl
 have := h.2.2 0 c d rfl
 rw [(one_cells h1).1] at this
 exact this rfl
theorem map_of {α : Type} {f : α → D} {Q : D → Prop} (hf : ∀ d, Q d → ∃ a, d = f a) : ∀ {es : List D}, (∀ e ∈ es, Q e) → ∃ l : List α, es = l.map f
 | [], _ => ⟨[], rfl⟩
 | e :: es, h => by
  obtain ⟨a, rfl⟩ := hf e (h e (List.mem_cons_self ..))
  obtain ⟨l, rfl⟩ := map_of hf (fun e he => h e (List.mem_cons_of_mem _ he))
  exact ⟨a :: l, rfl⟩
end Go.Proofs.Try
end

section
namespace Go.Proofs.Try
open Go Go.Vm
def cPit : List Cs := [.str, .int .i64, .int .i64, .int .i64, .sl false [.int .i64], .int .i64]
def cBulk : List Cs := [.str, .int .i64, .int .i64]
def cDep : List Cs := [.int .i64, .str, .int .i64]
def cYard : List Cs := [.sl true cPit, .sl true cBulk, .sl true cDep, .sl false [.int .i64]]
def cBat : List Cs := [.int .i64, .int .i64, .int .i64, .str, .int .i64]
theorem ints_of9 {d : D} (h : Ty (.sl false [.int .i64]) d) : ∃ l : List Int, d = .sl 1 (l.map iD) := by
 obtain ⟨es, rfl, he, -⟩ := sl_of h
 obtain ⟨l, rfl⟩ := map_of (f := iD) (fun d hd => by
  obtain ⟨n, rfl, -⟩ := int_of (one_of hd)
  exact ⟨n, rfl⟩) he
 exact ⟨l, rfl⟩
theorem pit_of {d : D} (h : TyV (true, cPit) d) : ∃ p, d = ptD p := by
 obtain ⟨ds, rfl, hl, hc⟩ := agg_of h
 match ds, hl with
 | [a, b, c, e, f, g], _ =>
  obtain ⟨s, rfl, -⟩ := str_of (hc 0 _ a rfl rfl)
  obtain ⟨x1, rfl, -⟩ := int_of (hc 1 _ b rfl rfl)
  obtain ⟨x2, rfl, -⟩ := int_of (hc 2 _ c rfl rfl)
  obtain ⟨x3, rfl, -⟩ := int_of (hc 3 _ e rfl rfl)
  obtain ⟨l, rfl⟩ := ints_of9 (hc 4 _ f rfl rfl)
  obtain ⟨x5, rfl, -⟩ := int_of (hc 5 _ g rfl rfl)
  exact ⟨⟨s, x1, x2, x3, l, x5⟩, rfl⟩
theorem bulk_of {d : D} (h : TyV (true, cBulk) d) : ∃ p, d = bkD p := by
 obtain ⟨ds, rfl, hl, hc⟩ := agg_of h
 match ds, hl with
 | [a, b, c], _ =>
  obtain ⟨s, rfl, -⟩ := str_of (hc 0 _ a rfl rfl)
  obtain ⟨x1, rfl, -⟩ := int_of (hc 1 _ b rfl rfl)
  obtain ⟨x2, rfl, -⟩ := int_of (hc 2 _ c rfl rfl)
  exact ⟨⟨s, x1, x2⟩, rfl⟩
theorem dep_of {d : D} (h : TyV (true, cDep) d) : ∃ p, d = dpD p := by
 obtain ⟨ds, rfl, hl, hc⟩ := agg_of h
 match ds, hl with
 | [a, b, c], _ =>
  obtain ⟨x1, rfl, -⟩ := int_of (hc 0 _ a rfl rfl)
  obtain ⟨s, rfl, -⟩ := str_of (hc 1 _ b rfl rfl)
  obtain ⟨x2, rfl, -⟩ := int_of (hc 2 _ c rfl rfl)
  exact ⟨⟨x1, s, x2⟩, rfl⟩
theorem bat_of {d : D} (h : TyV (true, cBat) d) : ∃ p, d = btD p := by
 obtain ⟨ds, rfl, hl, hc⟩ := agg_of h
 match ds, hl with
 | [a, b, c, e, f], _ =>
  obtain ⟨x0, rfl, -⟩ := int_of (hc 0 _ a rfl rfl)
  obtain ⟨x1, rfl, -⟩ := int_of (hc 1 _ b rfl rfl)
  obtain ⟨x2, rfl, -⟩ := int_of (hc 2 _ c rfl rfl)
  obtain ⟨s, rfl, -⟩ := str_of (hc 3 _ e rfl rfl)
  obtain ⟨x4, rfl, -⟩ := int_of (hc 4 _ f rfl rfl)
  exact ⟨⟨x0, x1, x2, s, x4⟩, rfl⟩
theorem yard_of {d : D} (h : TyV (true, cYard) d) : ∃ y, d = ydD y := by
 obtain ⟨ds, rfl, hl, hc⟩ := agg_of h
 match ds, hl with
 | [a, b, c, e], _ =>
  obtain ⟨es, rfl, he, -⟩ := sl_of (hc 0 _ a rfl rfl)
  obtain ⟨l0, rfl⟩ := map_of (fun d hd => pit_of hd) he
  obtain ⟨es, rfl, he, -⟩ := sl_of (hc 1 _ b rfl rfl)
  obtain ⟨l1, rfl⟩ := map_of (fun d hd => bulk_of hd) he
  obtain ⟨es, rfl, he, -⟩ := sl_of (hc 2 _ c rfl rfl)
  obtain ⟨l2, rfl⟩ := map_of (fun d hd => dep_of hd) he
  obtain ⟨l3, rfl⟩ := ints_of9 (hc 3 _ e rfl rfl)
  exact ⟨⟨l0, l1, l2, l3⟩, rfl⟩
end Go.Proofs.Try
end

section
namespace Go.Proofs.Try
open Go Go.Vm
def cAl : List Cs := [.int .i64, .str, .int .i64]
theorem al_of {d : D} (h : TyV (true, cAl) d) : ∃ p, d = alD p := by
 obtain ⟨ds, rfl, hl, hc⟩ := agg_of h
 match ds, hl with
 | [a, b, c], _ =>
  obtain ⟨x1, rfl, -⟩ := int_of (hc 0 _ a rfl rfl)
  obtain ⟨s, rfl, -⟩ := str_of (hc 1 _ b rfl rfl)
  obtain ⟨x2, rfl, -⟩ := int_of (hc 2 _ c rfl rfl)
  exact ⟨⟨x1, s, x2⟩, rfl⟩
theorem als_of {d : D} (h : Ty (.sl true cAl) d) : ∃ l : List Al, d = .sl 3 (l.map alD) := by
 obtain ⟨es, rfl, he, -⟩ := sl_of h
 obtain ⟨l, rfl⟩ := map_of (fun d hd => al_of hd) he
 exact ⟨l, rfl⟩
end Go.Proofs.Try
end

section
namespace Go.Proofs.Try
open Go Go.Vm
def cAtt : List Cs := [.sl true cAl, .sl false [.int .i64], .int .u8, .int .u8]
theorem u8_in {n : Int} (h : (Lit.int .u8 n).wf = true) : 0 ≤ n ∧ n ≤ 255 := by
 simp [Lit.wf, IntKind.min, IntKind.max, IntKind.bits, IntKind.signed] at h
 omega
theorem att_of {d : D} (h : TyV (true, cAtt) d) : ∃ (x : List Al) (c : List Int) (p q : Int), d = .agg [.sl 3 (x.map alD), .sl 1 (c.map iD), .int .u8 p, .int .u8 q] ∧ (0 ≤ p ∧ p ≤ 255) ∧ (0 ≤ q ∧ q ≤ 255) := by
 obtain ⟨ds, rfl, hl, hc⟩ := agg_of h
 match ds, hl with
 | [a, b, c, e], _ =>
  obtain ⟨l0, rfl⟩ := als_of (hc 0 _ a rfl rfl)
  obtain ⟨l1, rfl⟩ := ints_of9 (hc 1 _ b rfl rfl)
  obtain ⟨p, rfl, hp⟩ := int_of (hc 2 _ c rfl rfl)
  obtain ⟨q, rfl, hq⟩ := int_of (hc 3 _ e rfl rfl)
  exact ⟨l0, l1, p, q, rfl, u8_in hp, u8_in hq⟩
theorem batsL_of {d : D} (h : Ty (.sl true cBat) d) : ∃ l : List Bt, d = .sl 5 (l.map btD) ∧ l.length ≤ 9223372036854775807 := by
 obtain ⟨es, rfl, he, hn⟩ := sl_of h
 obtain ⟨l, rfl⟩ := map_of (fun d hd => bat_of hd) he
 exact ⟨l, rfl, by rwa [List.length_map] at hn⟩
end Go.Proofs.Try
end

section
namespace Go.Proofs.Try
open Go Go.Vm
theorem ev_TopFlowIsCut' (y : Yd) (l : List Bt) (hl : l.length ≤ 9223372036854775807) (xs : List Al) (cut : List Int) (p q : Int) (hp : 0 ≤ p ∧ p ≤ 255) (hq : 0 ≤ q ∧ q ≤ 255) :
 Ev Try.prog 5 [ydD y, .sl 5 (l.map btD), .agg [.sl 3 (xs.map alD), .sl 1 (cut.map iD), .int .u8 p, .int .u8 q]] (.bool true) := ev_TopFlowIsCut y l xs cut p q hp hq hl
end Go.Proofs.Try
end
