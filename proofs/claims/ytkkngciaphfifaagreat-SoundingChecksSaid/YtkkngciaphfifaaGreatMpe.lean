/- Texts SdS, joined; what is not needed is left out. -/
import Derived.Test.YtkkngciaphfifaaGreatMpd
section
namespace Go.Proofs.Tryz
open Go Go.Vm Go.Sort
set_option maxRecDepth 20000
set_option maxHeartbeats 8000000
/-! Right thinnings. -/
def notUp (o : List Sg) (n : Int) : Bool := match o.getLast? with
  | none => false
  | some p => decide (n ≤ p.n)
def kRun (l : List Sg) (r : Int) : List Sg → List Int → Option (List Sg)
  | o, [] => some o
  | o, n :: rest => match l.find? fun s => s.n == n with
    | none => none
    | some s => if notUp o n = true then none else if (o.any fun k => decide (sqS k s.x s.y ≤ r * r)) = true then none else kRun l r (o ++ [s]) rest
def gUp : Option Int → Int → Bool
  | none, _ => false
  | some q, n => decide (n ≤ q)
def gBad (r : Int) (s k : Sg) : Bool := decide (sqS k s.x s.y > r * r) || decide (k.hi < s.hi)
def gRun (l kp : List Sg) (r : Int) : Option Int → List (Int × Int) → Bool
  | _, [] => true
  | p, g :: rest => match l.find? (fun s => s.n == g.1), kp.find? (fun s => s.n == g.2) with
    | some s, some k => if (kp.find? fun s => s.n == g.1).isSome = true then false else if gUp p g.1 = true then false else if gBad r s k = true then false else gRun l kp r (some g.1) rest
    | _, _ => false
def rightB (l : List Sg) (r : Int) (k : List Int) (g : List (Int × Int)) : Bool := decide (k.length + g.length = l.length) && match kRun l r [] k with
  | none => false
  | some kp => gRun l kp r none g
theorem kRun_at {l : List Sg} {r : Int} {k : List Int} {i : Nat} {n : Int} {o : List Sg} (h : k[i]? = some n) : kRun l r o (k.drop i) = match l.find? (fun s => s.n == n) with
    | none => none
    | some s => if notUp o n = true then none else if (o.any fun k => decide (sqS k s.x s.y ≤ r * r)) = true then none else kRun l r (o ++ [s]) (k.drop (i + 1)) := by
  rw [drop_of h, kRun]
theorem gRun_at {l kp : List Sg} {r : Int} {g : List (Int × Int)} {i : Nat} {x : Int × Int} {p : Option Int} (h : g[i]? = some x) : gRun l kp r p (g.drop i) = match l.find? (fun s => s.n == x.1), kp.find? (fun s => s.n == x.2) with
    | some s, some k => if (kp.find? fun s => s.n == x.1).isSome = true then false else if gUp p x.1 = true then false else if gBad r s k = true then false else gRun l kp r (some x.1) (g.drop (i + 1))
    | _, _ => false := by
  rw [drop_of h, gRun]
/-- What is kept so far: in order, out of the sheet, under the numbers that were read. -/
structure KOk (l : List Sg) (k : List Int) (i : Nat) (o : List Sg) : Prop where
  nums : o.map Sg.n = k.take i
  sub : ∀ s ∈ o, s ∈ l
  up : o.Pairwise fun a b => a.n < b.n
theorem up_noTwo {o : List Sg} (h : o.Pairwise fun a b => a.n < b.n) : NoTwo o := h.imp fun {a b} h e => by rw [e] at h; omega
theorem KOk.len {l : List Sg} {k : List Int} {i : Nat} {o : List Sg} (h : KOk l k i o) : o.length = min i k.length := by
  have := congrArg List.length h.nums
  rwa [List.length_map, List.length_take] at this
theorem find_mem {l : List Sg} {n : Int} {s : Sg} (h : (l.find? fun s => s.n == n) = some s) : s ∈ l ∧ s.n = n := ⟨List.mem_of_find?_eq_some h, by simpa using List.find?_some h⟩
theorem KOk.snoc {l : List Sg} {k : List Int} {i : Nat} {o : List Sg} (h : KOk l k i o) {n : Int} {s : Sg} (hn : k[i]? = some n) (hs : (l.find? fun s => s.n == n) = some s) (hu : notUp o n = false) : KOk l k (i + 1) (o ++ [s]) := by
  obtain ⟨h1, h2⟩ := find_mem hs
  refine ⟨by rw [List.map_append, h.nums, take_snoc hn]; simp [h2], fun t ht => ?_, ?_⟩
  · rcases List.mem_append.1 ht with ht | ht
    · exact h.sub t ht
    · rw [List.mem_singleton.1 ht]; exact h1
  · refine List.pairwise_append.2 ⟨h.up, by simp, fun a ha b hb => ?_⟩
    rw [List.mem_singleton.1 hb, h2]
    rcases nil_or_snoc o with rfl | ⟨q, z, rfl⟩
    · cases ha
    · simp [notUp] at hu
      rcases List.mem_append.1 ha with ha | ha
      · have := (List.pairwise_append.1 h.up).2.2 a ha z (by simp)
        omega
      · rw [List.mem_singleton.1 ha]; omega
theorem KOk.prev {l : List Sg} {k : List Int} {i : Nat} {o : List Sg} (h : KOk l k i o) {n : Int} (hi : i ≤ k.length) : (i = 0 → notUp o n = false) ∧ ∀ q, 0 < i → k[i - 1]? = some q → notUp o n = decide (n ≤ q) := by
  constructor
  · rintro rfl
    have := h.len
    rw [Nat.zero_min] at this
    rw [List.eq_nil_of_length_eq_zero this]; rfl
  · intro q h0 hq
    rcases nil_or_snoc o with rfl | ⟨p, z, rfl⟩
    · have := h.len; simp at this; omega
    · have h1 := h.nums
      rw [show i = (i - 1) + 1 by omega, take_snoc hq, List.map_append] at h1
      have h2 := (List.append_inj' h1 rfl).2
      simp at h2
      simp [notUp, h2]
theorem nodup_len : ∀ (n : Nat) (l : List Nat), l.Nodup → (∀ x ∈ l, x < n) → l.length ≤ n
  | 0, l, _, h => by
    cases l with
    | nil => simp
    | cons a r => have := h a (by simp); omega
  | n + 1, l, hn, h => by
    by_cases hm : n ∈ l
    · have := nodup_len n (l.erase n) (hn.erase n) fun x hx => by
        have h1 := h x (List.mem_of_mem_erase hx)
        have h2 : x ≠ n := ((hn.mem_erase_iff).1 hx).1
        omega
      rw [List.length_erase_of_mem hm] at this
      omega
    · have := nodup_len n l hn fun x hx => by
        have h1 := h x hx
        have : x ≠ n := by rintro rfl; exact hm hx
        omega
      omega
theorem byN_get {o : List Sg} {j : Nat} {p : D × D} (h : (byN o)[j]? = some p) : ∃ s, o[j]? = some s ∧ p = (iD s.n, sgD s) := by
  rw [byN, List.getElem?_map, Option.map_eq_some_iff] at h
  obtain ⟨s, h1, rfl⟩ := h
  exact ⟨s, h1, rfl⟩
theorem byN_len (o : List Sg) : (byN o).length = o.length := List.length_map _
theorem byN_app {o : List Sg} {s : Sg} (h : ∀ t ∈ o, t.n ≠ s.n) (hu : NoTwo o) : mput (byN o) (iD s.n) (sgD s) = byN (o ++ [s]) := by
  have h0 : mget (byN o) (iD s.n) = none := by
    rw [mget_byN _ _ hu]
    have : o.find? (fun t => t.n == s.n) = none := by
      rw [List.find?_eq_none]; intro x hx; simpa using h x hx
    rw [this]; rfl
  rw [mput_new h0]; simp [byN]
theorem KOk.new {l : List Sg} {k : List Int} {i : Nat} {o : List Sg} {s : Sg} (h : KOk l k (i + 1) (o ++ [s])) : ∀ t ∈ o, t.n ≠ s.n := fun t ht e => by
  have := (List.pairwise_append.1 h.up).2.2 t ht s (by simp)
  omega
theorem LookK.byN {o : List Sg} (hu : NoTwo o) {n : Int} {A : D → Prop} {B : Prop} (h1 : ∀ s, (o.find? fun s => s.n == n) = some s → A (sgD s)) (h2 : (o.find? fun s => s.n == n) = none → B) : LookK (Go.Proofs.Tryz.byN o) (iD n) A B := by
  refine LookK.mk (fun v hv => ?_) (fun hv => ?_)
  · rw [mget_byN _ _ hu, Option.map_eq_some_iff] at hv
    obtain ⟨s, hs, rfl⟩ := hv
    exact h1 s hs
  · rw [mget_byN _ _ hu, Option.map_eq_none_iff] at hv
    exact h2 hv
def gPrev (g : List (Int × Int)) : Nat → Option Int
  | 0 => none
  | i + 1 => (g[i]?).map fun x => x.1
def ctErr (l : List Sg) (r : Int) (k : List Int) (g : List (Int × Int)) : Int := if chkErr sgB Sg.n l ≠ 0 then chkErr sgB Sg.n l else if radB r ≠ 0 then radB r else if rightB l r k g = true then 0 else 21
theorem ev_right (l : List Sg) (r : Int) (k : List Int) (g : List (Int × Int)) (hu : NoTwo l) (hl : l.length ≤ 500) (hp : ∀ s ∈ l, -1000000 ≤ s.x ∧ s.x ≤ 1000000 ∧ -1000000 ≤ s.y ∧ s.y ≤ 1000000) (hr : 0 ≤ r ∧ r ≤ 2000000) (hk : k.length ≤ 1000) (hg : g.length ≤ 1000) :
    Ev Tryz.prog 100 [.sl 5 (l.map sgD), iD r, thD k g] (.bool (rightB l r k g)) := by
  have hlen : (l.map sgD).length = l.length := List.length_map _
  have hlk : (k.map iD).length = k.length := List.length_map _
  have hlg : (g.map gdD).length = g.length := List.length_map _
  have hrr := mul_bd (x := r) (y := r) (X := 2000000) (Y := 2000000) (by omega) (by omega)
  unfold rightB
  by_cases c0 : k.length + g.length = l.length
  · rw [decide_eq_true c0, Bool.true_and]
    have h1 := EvX.newM (xs := [.sl 5 (l.map sgD)]) (xv_byNumber l hu (by omega)) 34
    refine ev_of_awp tysOk mixed (fn := Tryz.f100) Tryz.func100 rfl rfl rfl ?_
    conv => whnf
    repeat' (first
      | ((with_reducible refine Split.of_true ?_); conv => whnf)
      | ((with_reducible refine Split.of_false ?_); conv => whnf)
      | ((with_reducible refine Split.neg ?_))
      | ((with_reducible refine Split.is_true ?_ ?_); decide; conv => whnf)
      | ((with_reducible refine Split.is_false ?_ ?_); decide; conv => whnf)
      | ((with_reducible refine Split.nez (fun _ => ?_) (fun _ => ?_)) <;> conv => whnf)
      | ((with_reducible refine Split.eqz (fun _ => ?_) (fun _ => ?_)) <;> conv => whnf)
      | ((with_reducible refine Split.and ?_))
      | ((with_reducible refine Split.or ?_))
      | ((with_reducible refine Split.streq (fun _ => ?_) (fun _ => ?_)) <;> conv => whnf)
      | ((with_reducible refine Split.dec (fun _ => ?_) (fun _ => ?_)) <;> conv => whnf)
      | ((with_reducible refine Split.mk (fun _ => ?_) (fun _ => ?_)) <;> conv => whnf)
      | ((with_reducible refine NilK.mk (fun _ => ?_) ?_) <;> conv => whnf)
      | ((with_reducible refine AltK.l ?_); (conv => whnf); (with_reducible refine Need.mk ?_ ?_); (first | omega | (refine ⟨?_, ?_⟩ <;> simp <;> omega) | (simp; omega)); conv => whnf)
      | ((with_reducible refine Need.mk ?_ ?_); (first | omega | rfl | decide | (refine ⟨?_, ?_⟩ <;> simp <;> omega) | (simp; omega)); conv => whnf)
      | ((with_reducible refine Wr.quo ?_ ?_ ?_ ?_); omega; omega; omega; conv => whnf)
      | ((with_reducible refine Wr.inr ?_ ?_); (first | omega | (simp; omega)); conv => whnf)
      | ((with_reducible refine Wr.inu ?_ ?_); omega; conv => whnf)
      | ((with_reducible refine AltK.r ?_); (conv => whnf); (first | (refine CallX.mk _ _ (h1) rfl ?_)); conv => whnf)
      | (exfalso; first | omega | contradiction))
    refine LoopK.o2 (fun x : Nat × List Sg => x.1 ≤ k.length ∧ KOk l k x.1 x.2 ∧ kRun l r [] k = kRun l r x.2 (k.drop x.1)) (fun x => [(39, .d (.int .i64 x.1))]) (fun x => [(35, .map 3 36 (.int .i64) (byN x.2))]) (fun x => k.length - x.1) (0, []) ⟨by simp, ⟨rfl, fun s h => by simp at h, .nil⟩, rfl⟩ (by refine ⟨?_, ?_, rfl⟩ <;> (repeat' (first | exact True.intro | exact rfl | refine ⟨?_, ?_⟩ | (intro h; cases h; done) | (intro h; exact h) | exact map_snoc | (refine own_congr ?_; simp; done) | (refine int_congr ?_; (first | omega | (simp; omega))) | (simp; done) | ((first | refine own_congr ?_ | refine int_congr ?_ | skip); simp [byN]; done) | ((first | refine own_congr ?_ | refine int_congr ?_); simp [byN]; omega) | (show @Eq (List Go.Vm.D) _ []; simp [byN]; done) | (simp [D.cells, byN]; done)))) ?_
    rintro ⟨i, o⟩ ⟨hi, hK, hrun⟩
    dsimp only at hi hK hrun
    have hnx : (i : Int) < k.length → ∃ m, k[i]? = some m := fun h => some_of_lt (by omega)
    by_cases hik : i < k.length
    · obtain ⟨n, hn⟩ := hnx (by omega)
      rw [kRun_at hn] at hrun
      have hpv := hK.prev (n := n) hi
      conv => whnf
      repeat' (first
        | ((refine PickE.map i hn (by omega) ?_); conv => whnf)
        | ((with_reducible refine Split.of_true ?_); conv => whnf)
        | ((with_reducible refine Split.of_false ?_); conv => whnf)
        | ((with_reducible refine Split.neg ?_))
        | ((with_reducible refine Split.is_true ?_ ?_); decide; conv => whnf)
        | ((with_reducible refine Split.is_false ?_ ?_); decide; conv => whnf)
        | ((with_reducible refine Split.nez (fun _ => ?_) (fun _ => ?_)) <;> conv => whnf)
        | ((with_reducible refine Split.eqz (fun _ => ?_) (fun _ => ?_)) <;> conv => whnf)
        | ((with_reducible refine Split.and ?_))
        | ((with_reducible refine Split.or ?_))
        | ((with_reducible refine Split.streq (fun _ => ?_) (fun _ => ?_)) <;> conv => whnf)
        | ((with_reducible refine Split.dec (fun _ => ?_) (fun _ => ?_)) <;> conv => whnf)
        | ((with_reducible refine Split.mk (fun _ => ?_) (fun _ => ?_)) <;> conv => whnf)
        | ((with_reducible refine NilK.mk (fun _ => ?_) ?_) <;> conv => whnf)
        | ((with_reducible refine AltK.l ?_); (conv => whnf); (with_reducible refine Need.mk ?_ ?_); (first | omega | (refine ⟨?_, ?_⟩ <;> simp <;> omega) | (simp; omega)); conv => whnf)
        | ((with_reducible refine Need.mk ?_ ?_); (first | omega | rfl | decide | (refine ⟨?_, ?_⟩ <;> simp <;> omega) | (simp; omega)); conv => whnf)
        | ((with_reducible refine Wr.quo ?_ ?_ ?_ ?_); omega; omega; omega; conv => whnf)
        | ((with_reducible refine Wr.inr ?_ ?_); (first | omega | (simp; omega)); conv => whnf)
        | ((with_reducible refine Wr.inu ?_ ?_); omega; conv => whnf)
        | (exfalso; first | omega | contradiction))
      refine LookK.byN hu (fun s hs => ?_) (fun hs => ?_)
      · rw [hs] at hrun
        simp only at hrun
        obtain ⟨hsl, hsn⟩ := find_mem hs
        have hsp := hp s hsl
        cases hnu : notUp o n with
        | true =>
          have h0 : 0 < i := by
            rcases Nat.eq_zero_or_pos i with h0 | h0
            · rw [hpv.1 h0] at hnu; cases hnu
            · exact h0
          obtain ⟨q, hq⟩ := some_of_lt (l := k) (i := i - 1) (by omega)
          have hnq := hpv.2 q h0 hq
          rw [hnu, eq_comm, decide_eq_true_eq] at hnq
          rw [if_pos hnu] at hrun
          rw [hrun]
          conv => whnf
          repeat' (first
            | ((refine PickE.map (i - 1) hq (by omega) ?_); conv => whnf)
            | ((with_reducible refine Split.of_true ?_); conv => whnf)
            | ((with_reducible refine Split.of_false ?_); conv => whnf)
            | ((with_reducible refine Split.neg ?_))
            | ((with_reducible refine Split.is_true ?_ ?_); decide; conv => whnf)
            | ((with_reducible refine Split.is_false ?_ ?_); decide; conv => whnf)
            | ((with_reducible refine Split.nez (fun _ => ?_) (fun _ => ?_)) <;> conv => whnf)
            | ((with_reducible refine Split.eqz (fun _ => ?_) (fun _ => ?_)) <;> conv => whnf)
            | ((with_reducible refine Split.and ?_))
            | ((with_reducible refine Split.or ?_))
            | ((with_reducible refine Split.streq (fun _ => ?_) (fun _ => ?_)) <;> conv => whnf)
            | ((with_reducible refine Split.dec (fun _ => ?_) (fun _ => ?_)) <;> conv => whnf)
            | ((with_reducible refine Split.mk (fun _ => ?_) (fun _ => ?_)) <;> conv => whnf)
            | ((with_reducible refine NilK.mk (fun _ => ?_) ?_) <;> conv => whnf)
            | ((with_reducible refine AltK.l ?_); (conv => whnf); (with_reducible refine Need.mk ?_ ?_); (first | omega | (refine ⟨?_, ?_⟩ <;> simp <;> omega) | (simp; omega)); conv => whnf)
            | ((with_reducible refine Need.mk ?_ ?_); (first | omega | rfl | decide | (refine ⟨?_, ?_⟩ <;> simp <;> omega) | (simp; omega)); conv => whnf)
            | ((with_reducible refine Wr.quo ?_ ?_ ?_ ?_); omega; omega; omega; conv => whnf)
            | ((with_reducible refine Wr.inr ?_ ?_); (first | omega | (simp; omega)); conv => whnf)
            | ((with_reducible refine Wr.inu ?_ ?_); omega; conv => whnf)
            | (exfalso; first | omega | contradiction))
          rfl
        | false =>
          rw [if_neg (by rw [hnu]; decide)] at hrun
          have hK2 := hK.snoc hn hs hnu
          have hq : i = 0 ∨ ∃ q, k[i - 1]? = some q ∧ ¬ n ≤ q ∧ 0 < i := by
            rcases Nat.eq_zero_or_pos i with h0 | h0
            · exact .inl h0
            · obtain ⟨q, hq⟩ := some_of_lt (l := k) (i := i - 1) (by omega)
              have hnq := hpv.2 q h0 hq
              rw [hnu, eq_comm, decide_eq_false_iff_not] at hnq
              exact .inr ⟨q, hq, hnq, h0⟩
          rcases hq with h0 | ⟨q, hq, hnq, h0⟩
          all_goals
            conv => whnf
            repeat' (first
              | ((refine PickE.map (i - 1) hq (by omega) ?_); conv => whnf)
              | ((with_reducible refine Split.of_true ?_); conv => whnf)
              | ((with_reducible refine Split.of_false ?_); conv => whnf)
              | ((with_reducible refine Split.neg ?_))
              | ((with_reducible refine Split.is_true ?_ ?_); decide; conv => whnf)
              | ((with_reducible refine Split.is_false ?_ ?_); decide; conv => whnf)
              | ((with_reducible refine Split.nez (fun _ => ?_) (fun _ => ?_)) <;> conv => whnf)
              | ((with_reducible refine Split.eqz (fun _ => ?_) (fun _ => ?_)) <;> conv => whnf)
              | ((with_reducible refine Split.and ?_))
              | ((with_reducible refine Split.or ?_))
              | ((with_reducible refine Split.streq (fun _ => ?_) (fun _ => ?_)) <;> conv => whnf)
              | ((with_reducible refine Split.dec (fun _ => ?_) (fun _ => ?_)) <;> conv => whnf)
              | ((with_reducible refine Split.mk (fun _ => ?_) (fun _ => ?_)) <;> conv => whnf)
              | ((with_reducible refine NilK.mk (fun _ => ?_) ?_) <;> conv => whnf)
              | ((with_reducible refine AltK.l ?_); (conv => whnf); (with_reducible refine Need.mk ?_ ?_); (first | omega | (refine ⟨?_, ?_⟩ <;> simp <;> omega) | (simp; omega)); conv => whnf)
              | ((with_reducible refine Need.mk ?_ ?_); (first | omega | rfl | decide | (refine ⟨?_, ?_⟩ <;> simp <;> omega) | (simp; omega)); conv => whnf)
              | ((with_reducible refine Wr.quo ?_ ?_ ?_ ?_); omega; omega; omega; conv => whnf)
              | ((with_reducible refine Wr.inr ?_ ?_); (first | omega | (simp; omega)); conv => whnf)
              | ((with_reducible refine Wr.inu ?_ ?_); omega; conv => whnf)
              | (exfalso; first | omega | contradiction))
            refine LoopK.o2 (fun seen : List Nat => seen.Nodup ∧ (∀ j ∈ seen, j < o.length) ∧ ∀ j ∈ seen, ∀ z, o[j]? = some z → ¬ sqS z s.x s.y ≤ r * r) (fun _ => []) (fun seen => [(67, .iter (some 35) (byN o).length seen)]) (fun seen => o.length - seen.length) [] ⟨.nil, (fun j hj => (by cases hj)), fun j hj => (by cases hj)⟩ (by refine ⟨?_, ?_, rfl⟩ <;> (repeat' (first | exact True.intro | exact rfl | refine ⟨?_, ?_⟩ | (intro h; cases h; done) | (intro h; exact h) | exact map_snoc | (refine own_congr ?_; simp; done) | (refine int_congr ?_; (first | omega | (simp; omega))) | (simp; done)))) ?_
            rintro seen ⟨n1, n2, n3⟩
            conv => whnf
            repeat' (first
              | ((with_reducible refine Split.of_true ?_); conv => whnf)
              | ((with_reducible refine Split.of_false ?_); conv => whnf)
              | ((with_reducible refine Split.neg ?_))
              | ((with_reducible refine Split.is_true ?_ ?_); decide; conv => whnf)
              | ((with_reducible refine Split.is_false ?_ ?_); decide; conv => whnf)
              | ((with_reducible refine Split.nez (fun _ => ?_) (fun _ => ?_)) <;> conv => whnf)
              | ((with_reducible refine Split.eqz (fun _ => ?_) (fun _ => ?_)) <;> conv => whnf)
              | ((with_reducible refine Split.and ?_))
              | ((with_reducible refine Split.or ?_))
              | ((with_reducible refine Split.streq (fun _ => ?_) (fun _ => ?_)) <;> conv => whnf)
              | ((with_reducible refine Split.dec (fun _ => ?_) (fun _ => ?_)) <;> conv => whnf)
              | ((with_reducible refine Split.mk (fun _ => ?_) (fun _ => ?_)) <;> conv => whnf)
              | ((with_reducible refine NilK.mk (fun _ => ?_) ?_) <;> conv => whnf)
              | ((with_reducible refine AltK.l ?_); (conv => whnf); (with_reducible refine Need.mk ?_ ?_); (first | omega | (refine ⟨?_, ?_⟩ <;> simp <;> omega) | (simp; omega)); conv => whnf)
              | ((with_reducible refine Need.mk ?_ ?_); (first | omega | rfl | decide | (refine ⟨?_, ?_⟩ <;> simp <;> omega) | (simp; omega)); conv => whnf)
              | ((with_reducible refine Wr.quo ?_ ?_ ?_ ?_); omega; omega; omega; conv => whnf)
              | ((with_reducible refine Wr.inr ?_ ?_); (first | omega | (simp; omega)); conv => whnf)
              | ((with_reducible refine Wr.inu ?_ ?_); omega; conv => whnf)
              | (exfalso; first | omega | contradiction))
            refine NextK.mk (fun j p hjp hjs => ?_) (fun hall => ?_)
            · conv => whnf
              obtain ⟨z, hz, rfl⟩ := byN_get hjp
              have hzl := hK.sub z (List.mem_of_getElem? hz)
              have h7 := ev_square z s.x s.y (hp z hzl) hsp
              have hjo := (List.getElem?_eq_some_iff.1 hz).1
              have n4 : (j :: seen).Nodup := List.nodup_cons.2 ⟨hjs, n1⟩
              have n5 := nodup_len o.length (j :: seen) n4 fun x hx => by
                rcases List.mem_cons.1 hx with rfl | hx
                · exact hjo
                · exact n2 x hx
              rw [List.length_cons] at n5
              conv => whnf
              repeat' (first
                | ((refine PickE.map j hjp rfl ?_); conv => whnf)
                | ((with_reducible refine Split.of_true ?_); conv => whnf)
                | ((with_reducible refine Split.of_false ?_); conv => whnf)
                | ((with_reducible refine Split.neg ?_))
                | ((with_reducible refine Split.is_true ?_ ?_); decide; conv => whnf)
                | ((with_reducible refine Split.is_false ?_ ?_); decide; conv => whnf)
                | ((with_reducible refine Split.nez (fun _ => ?_) (fun _ => ?_)) <;> conv => whnf)
                | ((with_reducible refine Split.eqz (fun _ => ?_) (fun _ => ?_)) <;> conv => whnf)
                | ((with_reducible refine Split.and ?_))
                | ((with_reducible refine Split.or ?_))
                | ((with_reducible refine Split.streq (fun _ => ?_) (fun _ => ?_)) <;> conv => whnf)
                | ((with_reducible refine Split.dec (fun _ => ?_) (fun _ => ?_)) <;> conv => whnf)
                | ((with_reducible refine Split.mk (fun _ => ?_) (fun _ => ?_)) <;> conv => whnf)
                | ((with_reducible refine NilK.mk (fun _ => ?_) ?_) <;> conv => whnf)
                | ((with_reducible refine AltK.l ?_); (conv => whnf); (with_reducible refine Need.mk ?_ ?_); (first | omega | (refine ⟨?_, ?_⟩ <;> simp <;> omega) | (simp; omega)); conv => whnf)
                | ((with_reducible refine Need.mk ?_ ?_); (first | omega | rfl | decide | (refine ⟨?_, ?_⟩ <;> simp <;> omega) | (simp; omega)); conv => whnf)
                | ((with_reducible refine Wr.quo ?_ ?_ ?_ ?_); omega; omega; omega; conv => whnf)
                | ((with_reducible refine Wr.inr ?_ ?_); (first | omega | (simp; omega)); conv => whnf)
                | ((with_reducible refine Wr.inu ?_ ?_); omega; conv => whnf)
                | ((with_reducible refine AltK.l ?_); (conv => whnf); (first | (refine CallK.mk _ (h7) ?_)); conv => whnf)
                | (exfalso; first | omega | contradiction))
              · have hy : (o.any fun k => decide (sqS k s.x s.y ≤ r * r)) = true := List.any_eq_true.2 ⟨z, List.mem_of_getElem? hz, decide_eq_true (by assumption)⟩
                rw [hy, if_pos rfl] at hrun
                rw [hrun]; rfl
              · refine Again.au (j :: seen) ⟨n4, fun x hx => ?_, fun x hx y hy => ?_⟩ (by rw [List.length_cons]; omega) (by refine ⟨?_, ?_, rfl⟩ <;> (repeat' (first | exact True.intro | exact rfl | refine ⟨?_, ?_⟩ | (intro h; cases h; done) | (intro h; exact h) | exact map_snoc | (refine own_congr ?_; simp; done) | (refine int_congr ?_; (first | omega | (simp; omega))) | (simp; done))))
                · rcases List.mem_cons.1 hx with rfl | hx
                  · exact hjo
                  · exact n2 x hx
                · rcases List.mem_cons.1 hx with rfl | hx
                  · have : z = y := Option.some.inj (hz.symm.trans hy)
                    rw [← this]; assumption
                  · exact n3 x hx y hy
            · conv => whnf
              have hno : (o.any fun k => decide (sqS k s.x s.y ≤ r * r)) = false := by
                rw [List.any_eq_false]
                intro z hz
                obtain ⟨j, hj, rfl⟩ := List.getElem_of_mem hz
                have := n3 j (hall j (by rw [byN_len]; exact hj)) _ (List.getElem?_eq_getElem hj)
                simpa using this
              rw [hno, if_neg (by decide)] at hrun
              have hmp1 := byN_app hK2.new (up_noTwo hK.up)
              rw [hsn, sgD] at hmp1
              conv => whnf
              repeat' (first
                | ((with_reducible refine Split.of_true ?_); conv => whnf)
                | ((with_reducible refine Split.of_false ?_); conv => whnf)
                | ((with_reducible refine Split.neg ?_))
                | ((with_reducible refine Split.is_true ?_ ?_); decide; conv => whnf)
                | ((with_reducible refine Split.is_false ?_ ?_); decide; conv => whnf)
                | ((with_reducible refine Split.nez (fun _ => ?_) (fun _ => ?_)) <;> conv => whnf)
                | ((with_reducible refine Split.eqz (fun _ => ?_) (fun _ => ?_)) <;> conv => whnf)
                | ((with_reducible refine Split.and ?_))
                | ((with_reducible refine Split.or ?_))
                | ((with_reducible refine Split.streq (fun _ => ?_) (fun _ => ?_)) <;> conv => whnf)
                | ((with_reducible refine Split.dec (fun _ => ?_) (fun _ => ?_)) <;> conv => whnf)
                | ((with_reducible refine Split.mk (fun _ => ?_) (fun _ => ?_)) <;> conv => whnf)
                | ((with_reducible refine NilK.mk (fun _ => ?_) ?_) <;> conv => whnf)
                | ((with_reducible refine AltK.l ?_); (conv => whnf); (with_reducible refine Need.mk ?_ ?_); (first | omega | (refine ⟨?_, ?_⟩ <;> simp <;> omega) | (simp; omega)); conv => whnf)
                | ((with_reducible refine Need.mk ?_ ?_); (first | omega | rfl | decide | (refine ⟨?_, ?_⟩ <;> simp <;> omega) | (simp; omega)); conv => whnf)
                | ((with_reducible refine Wr.quo ?_ ?_ ?_ ?_); omega; omega; omega; conv => whnf)
                | ((with_reducible refine Wr.inr ?_ ?_); (first | omega | (simp; omega)); conv => whnf)
                | ((with_reducible refine Wr.inu ?_ ?_); omega; conv => whnf)
                | (exfalso; first | omega | contradiction))
              exact Again.au (i + 1, o ++ [s]) ⟨by dsimp only at *; omega, hK2, hrun⟩ (by dsimp only at *; omega) (by refine ⟨?_, ?_, rfl⟩ <;> (repeat' (first | exact True.intro | exact rfl | refine ⟨?_, ?_⟩ | (intro h; cases h; done) | (intro h; exact h) | exact map_snoc | (refine own_congr ?_; simp; done) | (refine int_congr ?_; (first | omega | (simp; omega))) | (simp; done) | exact hmp1 | ((first | refine own_congr ?_ | refine int_congr ?_ | skip); simp [D.cells]; done) | ((first | refine own_congr ?_ | refine int_congr ?_); simp [D.cells]; omega) | (show @Eq (List Go.Vm.D) _ []; simp [D.cells]; done) | (simp [D.cells, D.cells]; done))))
      · rw [hs] at hrun
        simp only at hrun
        rw [hrun]
        conv => whnf
        repeat' (first
          | ((with_reducible refine Split.of_true ?_); conv => whnf)
          | ((with_reducible refine Split.of_false ?_); conv => whnf)
          | ((with_reducible refine Split.neg ?_))
          | ((with_reducible refine Split.is_true ?_ ?_); decide; conv => whnf)
          | ((with_reducible refine Split.is_false ?_ ?_); decide; conv => whnf)
          | ((with_reducible refine Split.nez (fun _ => ?_) (fun _ => ?_)) <;> conv => whnf)
          | ((with_reducible refine Split.eqz (fun _ => ?_) (fun _ => ?_)) <;> conv => whnf)
          | ((with_reducible refine Split.and ?_))
          | ((with_reducible refine Split.or ?_))
          | ((with_reducible refine Split.streq (fun _ => ?_) (fun _ => ?_)) <;> conv => whnf)
          | ((with_reducible refine Split.dec (fun _ => ?_) (fun _ => ?_)) <;> conv => whnf)
          | ((with_reducible refine Split.mk (fun _ => ?_) (fun _ => ?_)) <;> conv => whnf)
          | ((with_reducible refine NilK.mk (fun _ => ?_) ?_) <;> conv => whnf)
          | ((with_reducible refine AltK.l ?_); (conv => whnf); (with_reducible refine Need.mk ?_ ?_); (first | omega | (refine ⟨?_, ?_⟩ <;> simp <;> omega) | (simp; omega)); conv => whnf)
          | ((with_reducible refine Need.mk ?_ ?_); (first | omega | rfl | decide | (refine ⟨?_, ?_⟩ <;> simp <;> omega) | (simp; omega)); conv => whnf)
          | ((with_reducible refine Wr.quo ?_ ?_ ?_ ?_); omega; omega; omega; conv => whnf)
          | ((with_reducible refine Wr.inr ?_ ?_); (first | omega | (simp; omega)); conv => whnf)
          | ((with_reducible refine Wr.inu ?_ ?_); omega; conv => whnf)
          | (exfalso; first | omega | contradiction))
        rfl
    · have hkr : kRun l r [] k = some o := by rw [hrun, List.drop_eq_nil_of_le (by omega)]; rfl
      rw [hkr]
      simp only
      conv => whnf
      repeat' (first
        | ((with_reducible refine Split.of_true ?_); conv => whnf)
        | ((with_reducible refine Split.of_false ?_); conv => whnf)
        | ((with_reducible refine Split.neg ?_))
        | ((with_reducible refine Split.is_true ?_ ?_); decide; conv => whnf)
        | ((with_reducible refine Split.is_false ?_ ?_); decide; conv => whnf)
        | ((with_reducible refine Split.nez (fun _ => ?_) (fun _ => ?_)) <;> conv => whnf)
        | ((with_reducible refine Split.eqz (fun _ => ?_) (fun _ => ?_)) <;> conv => whnf)
        | ((with_reducible refine Split.and ?_))
        | ((with_reducible refine Split.or ?_))
        | ((with_reducible refine Split.streq (fun _ => ?_) (fun _ => ?_)) <;> conv => whnf)
        | ((with_reducible refine Split.dec (fun _ => ?_) (fun _ => ?_)) <;> conv => whnf)
        | ((with_reducible refine Split.mk (fun _ => ?_) (fun _ => ?_)) <;> conv => whnf)
        | ((with_reducible refine NilK.mk (fun _ => ?_) ?_) <;> conv => whnf)
        | ((with_reducible refine AltK.l ?_); (conv => whnf); (with_reducible refine Need.mk ?_ ?_); (first | omega | (refine ⟨?_, ?_⟩ <;> simp <;> omega) | (simp; omega)); conv => whnf)
        | ((with_reducible refine Need.mk ?_ ?_); (first | omega | rfl | decide | (refine ⟨?_, ?_⟩ <;> simp <;> omega) | (simp; omega)); conv => whnf)
        | ((with_reducible refine Wr.quo ?_ ?_ ?_ ?_); omega; omega; omega; conv => whnf)
        | ((with_reducible refine Wr.inr ?_ ?_); (first | omega | (simp; omega)); conv => whnf)
        | ((with_reducible refine Wr.inu ?_ ?_); omega; conv => whnf)
        | (exfalso; first | omega | contradiction))
      have hoN : NoTwo o := up_noTwo hK.up
      have hol := hK.len
      refine LoopK.o2 (fun i : Nat => i ≤ g.length ∧ gRun l o r none g = gRun l o r (gPrev g i) (g.drop i)) (fun i => [(89, .d (.int .i64 i))]) (fun _ => []) (fun i => g.length - i) 0 ⟨by simp, rfl⟩ (by refine ⟨?_, ?_, rfl⟩ <;> (repeat' (first | exact True.intro | exact rfl | refine ⟨?_, ?_⟩ | (intro h; cases h; done) | (intro h; exact h) | exact map_snoc | (refine own_congr ?_; simp; done) | (refine int_congr ?_; (first | omega | (simp; omega))) | (simp; done)))) ?_
      rintro j ⟨hj, hgr⟩
      have hgx : (j : Int) < g.length → ∃ m, g[j]? = some m := fun h => some_of_lt (by omega)
      by_cases hjg : j < g.length
      · obtain ⟨⟨u, v⟩, hx⟩ := hgx (by omega)
        rw [gRun_at hx] at hgr
        dsimp only at hgr
        conv => whnf
        repeat' (first
          | ((refine PickE.map j hx (by omega) ?_); conv => whnf)
          | ((with_reducible refine Split.of_true ?_); conv => whnf)
          | ((with_reducible refine Split.of_false ?_); conv => whnf)
          | ((with_reducible refine Split.neg ?_))
          | ((with_reducible refine Split.is_true ?_ ?_); decide; conv => whnf)
          | ((with_reducible refine Split.is_false ?_ ?_); decide; conv => whnf)
          | ((with_reducible refine Split.nez (fun _ => ?_) (fun _ => ?_)) <;> conv => whnf)
          | ((with_reducible refine Split.eqz (fun _ => ?_) (fun _ => ?_)) <;> conv => whnf)
          | ((with_reducible refine Split.and ?_))
          | ((with_reducible refine Split.or ?_))
          | ((with_reducible refine Split.streq (fun _ => ?_) (fun _ => ?_)) <;> conv => whnf)
          | ((with_reducible refine Split.dec (fun _ => ?_) (fun _ => ?_)) <;> conv => whnf)
          | ((with_reducible refine Split.mk (fun _ => ?_) (fun _ => ?_)) <;> conv => whnf)
          | ((with_reducible refine NilK.mk (fun _ => ?_) ?_) <;> conv => whnf)
          | ((with_reducible refine AltK.l ?_); (conv => whnf); (with_reducible refine Need.mk ?_ ?_); (first | omega | (refine ⟨?_, ?_⟩ <;> simp <;> omega) | (simp; omega)); conv => whnf)
          | ((with_reducible refine Need.mk ?_ ?_); (first | omega | rfl | decide | (refine ⟨?_, ?_⟩ <;> simp <;> omega) | (simp; omega)); conv => whnf)
          | ((with_reducible refine Wr.quo ?_ ?_ ?_ ?_); omega; omega; omega; conv => whnf)
          | ((with_reducible refine Wr.inr ?_ ?_); (first | omega | (simp; omega)); conv => whnf)
          | ((with_reducible refine Wr.inu ?_ ?_); omega; conv => whnf)
          | (exfalso; first | omega | contradiction))
        refine LookK.byN hu (fun s hs => ?_) (fun hs => ?_)
        · rw [hs] at hgr
          conv => whnf
          repeat' (first
            | ((with_reducible refine Split.of_true ?_); conv => whnf)
            | ((with_reducible refine Split.of_false ?_); conv => whnf)
            | ((with_reducible refine Split.neg ?_))
            | ((with_reducible refine Split.is_true ?_ ?_); decide; conv => whnf)
            | ((with_reducible refine Split.is_false ?_ ?_); decide; conv => whnf)
            | ((with_reducible refine Split.nez (fun _ => ?_) (fun _ => ?_)) <;> conv => whnf)
            | ((with_reducible refine Split.eqz (fun _ => ?_) (fun _ => ?_)) <;> conv => whnf)
            | ((with_reducible refine Split.and ?_))
            | ((with_reducible refine Split.or ?_))
            | ((with_reducible refine Split.streq (fun _ => ?_) (fun _ => ?_)) <;> conv => whnf)
            | ((with_reducible refine Split.dec (fun _ => ?_) (fun _ => ?_)) <;> conv => whnf)
            | ((with_reducible refine Split.mk (fun _ => ?_) (fun _ => ?_)) <;> conv => whnf)
            | ((with_reducible refine NilK.mk (fun _ => ?_) ?_) <;> conv => whnf)
            | ((with_reducible refine AltK.l ?_); (conv => whnf); (with_reducible refine Need.mk ?_ ?_); (first | omega | (refine ⟨?_, ?_⟩ <;> simp <;> omega) | (simp; omega)); conv => whnf)
            | ((with_reducible refine Need.mk ?_ ?_); (first | omega | rfl | decide | (refine ⟨?_, ?_⟩ <;> simp <;> omega) | (simp; omega)); conv => whnf)
            | ((with_reducible refine Wr.quo ?_ ?_ ?_ ?_); omega; omega; omega; conv => whnf)
            | ((with_reducible refine Wr.inr ?_ ?_); (first | omega | (simp; omega)); conv => whnf)
            | ((with_reducible refine Wr.inu ?_ ?_); omega; conv => whnf)
            | (exfalso; first | omega | contradiction))
          refine LookK.byN hoN (fun t ht => ?_) (fun ht => ?_)
          · rw [ht] at hgr
            simp only at hgr
            conv => whnf
            repeat' (first
              | ((with_reducible refine Split.of_true ?_); conv => whnf)
              | ((with_reducible refine Split.of_false ?_); conv => whnf)
              | ((with_reducible refine Split.neg ?_))
              | ((with_reducible refine Split.is_true ?_ ?_); decide; conv => whnf)
              | ((with_reducible refine Split.is_false ?_ ?_); decide; conv => whnf)
              | ((with_reducible refine Split.nez (fun _ => ?_) (fun _ => ?_)) <;> conv => whnf)
              | ((with_reducible refine Split.eqz (fun _ => ?_) (fun _ => ?_)) <;> conv => whnf)
              | ((with_reducible refine Split.and ?_))
              | ((with_reducible refine Split.or ?_))
              | ((with_reducible refine Split.streq (fun _ => ?_) (fun _ => ?_)) <;> conv => whnf)
              | ((with_reducible refine Split.dec (fun _ => ?_) (fun _ => ?_)) <;> conv => whnf)
              | ((with_reducible refine Split.mk (fun _ => ?_) (fun _ => ?_)) <;> conv => whnf)
              | ((with_reducible refine NilK.mk (fun _ => ?_) ?_) <;> conv => whnf)
              | ((with_reducible refine AltK.l ?_); (conv => whnf); (with_reducible refine Need.mk ?_ ?_); (first | omega | (refine ⟨?_, ?_⟩ <;> simp <;> omega) | (simp; omega)); conv => whnf)
              | ((with_reducible refine Need.mk ?_ ?_); (first | omega | rfl | decide | (refine ⟨?_, ?_⟩ <;> simp <;> omega) | (simp; omega)); conv => whnf)
              | ((with_reducible refine Wr.quo ?_ ?_ ?_ ?_); omega; omega; omega; conv => whnf)
              | ((with_reducible refine Wr.inr ?_ ?_); (first | omega | (simp; omega)); conv => whnf)
              | ((with_reducible refine Wr.inu ?_ ?_); omega; conv => whnf)
              | (exfalso; first | omega | contradiction))
            refine LookK.byN hoN (fun z hz => ?_) (fun hz => ?_)
            · rw [hz, if_pos (show (some z).isSome = true from rfl)] at hgr
              rw [hgr]
              conv => whnf
              repeat' (first
                | ((with_reducible refine Split.of_true ?_); conv => whnf)
                | ((with_reducible refine Split.of_false ?_); conv => whnf)
                | ((with_reducible refine Split.neg ?_))
                | ((with_reducible refine Split.is_true ?_ ?_); decide; conv => whnf)
                | ((with_reducible refine Split.is_false ?_ ?_); decide; conv => whnf)
                | ((with_reducible refine Split.nez (fun _ => ?_) (fun _ => ?_)) <;> conv => whnf)
                | ((with_reducible refine Split.eqz (fun _ => ?_) (fun _ => ?_)) <;> conv => whnf)
                | ((with_reducible refine Split.and ?_))
                | ((with_reducible refine Split.or ?_))
                | ((with_reducible refine Split.streq (fun _ => ?_) (fun _ => ?_)) <;> conv => whnf)
                | ((with_reducible refine Split.dec (fun _ => ?_) (fun _ => ?_)) <;> conv => whnf)
                | ((with_reducible refine Split.mk (fun _ => ?_) (fun _ => ?_)) <;> conv => whnf)
                | ((with_reducible refine NilK.mk (fun _ => ?_) ?_) <;> conv => whnf)
                | ((with_reducible refine AltK.l ?_); (conv => whnf); (with_reducible refine Need.mk ?_ ?_); (first | omega | (refine ⟨?_, ?_⟩ <;> simp <;> omega) | (simp; omega)); conv => whnf)
                | ((with_reducible refine Need.mk ?_ ?_); (first | omega | rfl | decide | (refine ⟨?_, ?_⟩ <;> simp <;> omega) | (simp; omega)); conv => whnf)
                | ((with_reducible refine Wr.quo ?_ ?_ ?_ ?_); omega; omega; omega; conv => whnf)
                | ((with_reducible refine Wr.inr ?_ ?_); (first | omega | (simp; omega)); conv => whnf)
                | ((with_reducible refine Wr.inu ?_ ?_); omega; conv => whnf)
                | (exfalso; first | omega | contradiction))
              rfl
            · rw [hz, if_neg (show ¬ (none : Option Sg).isSome = true from Bool.false_ne_true)] at hgr
              have hsp := hp s (find_mem hs).1
              have htp := hp t (hK.sub t (find_mem ht).1)
              have h7 := ev_square t s.x s.y htp hsp
              cases hgu : gUp (gPrev g j) u with
              | true =>
                rw [if_pos hgu] at hgr
                rw [hgr]
                have h0 : ∃ q, 0 < j ∧ g[j - 1]? = some q ∧ u ≤ q.1 := by
                  cases j with
                  | zero => cases hgu
                  | succ j =>
                    obtain ⟨q, hq⟩ := some_of_lt (l := g) (i := j) (by omega)
                    refine ⟨q, by omega, hq, ?_⟩
                    simp only [gPrev, hq, Option.map_some, gUp, decide_eq_true_eq] at hgu
                    exact hgu
                obtain ⟨⟨q1, q2⟩, h0, hq, huq⟩ := h0
                dsimp only at huq
                conv => whnf
                repeat' (first
                  | ((refine PickE.map (j - 1) hq (by omega) ?_); conv => whnf)
                  | ((with_reducible refine Split.of_true ?_); conv => whnf)
                  | ((with_reducible refine Split.of_false ?_); conv => whnf)
                  | ((with_reducible refine Split.neg ?_))
                  | ((with_reducible refine Split.is_true ?_ ?_); decide; conv => whnf)
                  | ((with_reducible refine Split.is_false ?_ ?_); decide; conv => whnf)
                  | ((with_reducible refine Split.nez (fun _ => ?_) (fun _ => ?_)) <;> conv => whnf)
                  | ((with_reducible refine Split.eqz (fun _ => ?_) (fun _ => ?_)) <;> conv => whnf)
                  | ((with_reducible refine Split.and ?_))
                  | ((with_reducible refine Split.or ?_))
                  | ((with_reducible refine Split.streq (fun _ => ?_) (fun _ => ?_)) <;> conv => whnf)
                  | ((with_reducible refine Split.dec (fun _ => ?_) (fun _ => ?_)) <;> conv => whnf)
                  | ((with_reducible refine Split.mk (fun _ => ?_) (fun _ => ?_)) <;> conv => whnf)
                  | ((with_reducible refine NilK.mk (fun _ => ?_) ?_) <;> conv => whnf)
                  | ((with_reducible refine AltK.l ?_); (conv => whnf); (with_reducible refine Need.mk ?_ ?_); (first | omega | (refine ⟨?_, ?_⟩ <;> simp <;> omega) | (simp; omega)); conv => whnf)
                  | ((with_reducible refine Need.mk ?_ ?_); (first | omega | rfl | decide | (refine ⟨?_, ?_⟩ <;> simp <;> omega) | (simp; omega)); conv => whnf)
                  | ((with_reducible refine Wr.quo ?_ ?_ ?_ ?_); omega; omega; omega; conv => whnf)
                  | ((with_reducible refine Wr.inr ?_ ?_); (first | omega | (simp; omega)); conv => whnf)
                  | ((with_reducible refine Wr.inu ?_ ?_); omega; conv => whnf)
                  | (exfalso; first | omega | contradiction))
                rfl
              | false =>
                rw [if_neg (by rw [hgu]; decide)] at hgr
                have h0 : j = 0 ∨ ∃ q, g[j - 1]? = some q ∧ ¬ u ≤ q.1 ∧ 0 < j := by
                  cases j with
                  | zero => exact .inl rfl
                  | succ j =>
                    obtain ⟨q, hq⟩ := some_of_lt (l := g) (i := j) (by omega)
                    refine .inr ⟨q, hq, ?_, by omega⟩
                    simp only [gPrev, hq, Option.map_some, gUp, decide_eq_false_iff_not] at hgu
                    exact hgu
                have hpn : gPrev g (j + 1) = some u := by simp [gPrev, hx]
                rw [gBad] at hgr
                rcases h0 with h0 | ⟨⟨q1, q2⟩, hq, huq, h0⟩
                all_goals
                  try dsimp only at huq
                  conv => whnf
                  repeat' (first
                    | ((refine PickE.map (j - 1) hq (by omega) ?_); conv => whnf)
                    | ((with_reducible refine Split.of_true ?_); conv => whnf)
                    | ((with_reducible refine Split.of_false ?_); conv => whnf)
                    | ((with_reducible refine Split.neg ?_))
                    | ((with_reducible refine Split.is_true ?_ ?_); decide; conv => whnf)
                    | ((with_reducible refine Split.is_false ?_ ?_); decide; conv => whnf)
                    | ((with_reducible refine Split.nez (fun _ => ?_) (fun _ => ?_)) <;> conv => whnf)
                    | ((with_reducible refine Split.eqz (fun _ => ?_) (fun _ => ?_)) <;> conv => whnf)
                    | ((with_reducible refine Split.and ?_))
                    | ((with_reducible refine Split.or ?_))
                    | ((with_reducible refine Split.streq (fun _ => ?_) (fun _ => ?_)) <;> conv => whnf)
                    | ((with_reducible refine Split.dec (fun _ => ?_) (fun _ => ?_)) <;> conv => whnf)
                    | ((with_reducible refine Split.mk (fun _ => ?_) (fun _ => ?_)) <;> conv => whnf)
                    | ((with_reducible refine NilK.mk (fun _ => ?_) ?_) <;> conv => whnf)
                    | ((with_reducible refine AltK.l ?_); (conv => whnf); (with_reducible refine Need.mk ?_ ?_); (first | omega | (refine ⟨?_, ?_⟩ <;> simp <;> omega) | (simp; omega)); conv => whnf)
                    | ((with_reducible refine Need.mk ?_ ?_); (first | omega | rfl | decide | (refine ⟨?_, ?_⟩ <;> simp <;> omega) | (simp; omega)); conv => whnf)
                    | ((with_reducible refine Wr.quo ?_ ?_ ?_ ?_); omega; omega; omega; conv => whnf)
                    | ((with_reducible refine Wr.inr ?_ ?_); (first | omega | (simp; omega)); conv => whnf)
                    | ((with_reducible refine Wr.inu ?_ ?_); omega; conv => whnf)
                    | ((with_reducible refine AltK.l ?_); (conv => whnf); (first | (refine CallK.mk _ (h7) ?_)); conv => whnf)
                    | (exfalso; first | omega | contradiction))
                  all_goals first
                    | (rw [if_neg (by simp; omega)] at hgr; exact Again.au (j + 1) ⟨by omega, by rw [hpn]; exact hgr⟩ (by omega) (by refine ⟨?_, ?_, rfl⟩ <;> (repeat' (first | exact True.intro | exact rfl | refine ⟨?_, ?_⟩ | (intro h; cases h; done) | (intro h; exact h) | exact map_snoc | (refine own_congr ?_; simp; done) | (refine int_congr ?_; (first | omega | (simp; omega))) | (simp; done)))))
                    | (rw [if_pos (by simp; omega)] at hgr; rw [hgr]; rfl)
          · rw [ht] at hgr
            simp only at hgr
            rw [hgr]
            conv => whnf
            repeat' (first
              | ((with_reducible refine Split.of_true ?_); conv => whnf)
              | ((with_reducible refine Split.of_false ?_); conv => whnf)
              | ((with_reducible refine Split.neg ?_))
              | ((with_reducible refine Split.is_true ?_ ?_); decide; conv => whnf)
              | ((with_reducible refine Split.is_false ?_ ?_); decide; conv => whnf)
              | ((with_reducible refine Split.nez (fun _ => ?_) (fun _ => ?_)) <;> conv => whnf)
              | ((with_reducible refine Split.eqz (fun _ => ?_) (fun _ => ?_)) <;> conv => whnf)
              | ((with_reducible refine Split.and ?_))
              | ((with_reducible refine Split.or ?_))
              | ((with_reducible refine Split.streq (fun _ => ?_) (fun _ => ?_)) <;> conv => whnf)
              | ((with_reducible refine Split.dec (fun _ => ?_) (fun _ => ?_)) <;> conv => whnf)
              | ((with_reducible refine Split.mk (fun _ => ?_) (fun _ => ?_)) <;> conv => whnf)
              | ((with_reducible refine NilK.mk (fun _ => ?_) ?_) <;> conv => whnf)
              | ((with_reducible refine AltK.l ?_); (conv => whnf); (with_reducible refine Need.mk ?_ ?_); (first | omega | (refine ⟨?_, ?_⟩ <;> simp <;> omega) | (simp; omega)); conv => whnf)
              | ((with_reducible refine Need.mk ?_ ?_); (first | omega | rfl | decide | (refine ⟨?_, ?_⟩ <;> simp <;> omega) | (simp; omega)); conv => whnf)
              | ((with_reducible refine Wr.quo ?_ ?_ ?_ ?_); omega; omega; omega; conv => whnf)
              | ((with_reducible refine Wr.inr ?_ ?_); (first | omega | (simp; omega)); conv => whnf)
              | ((with_reducible refine Wr.inu ?_ ?_); omega; conv => whnf)
              | (exfalso; first | omega | contradiction))
            refine LookK.byN hoN (fun z hz => ?_) (fun hz => ?_)
            all_goals
              conv => whnf
              repeat' (first
                | ((with_reducible refine Split.of_true ?_); conv => whnf)
                | ((with_reducible refine Split.of_false ?_); conv => whnf)
                | ((with_reducible refine Split.neg ?_))
                | ((with_reducible refine Split.is_true ?_ ?_); decide; conv => whnf)
                | ((with_reducible refine Split.is_false ?_ ?_); decide; conv => whnf)
                | ((with_reducible refine Split.nez (fun _ => ?_) (fun _ => ?_)) <;> conv => whnf)
                | ((with_reducible refine Split.eqz (fun _ => ?_) (fun _ => ?_)) <;> conv => whnf)
                | ((with_reducible refine Split.and ?_))
                | ((with_reducible refine Split.or ?_))
                | ((with_reducible refine Split.streq (fun _ => ?_) (fun _ => ?_)) <;> conv => whnf)
                | ((with_reducible refine Split.dec (fun _ => ?_) (fun _ => ?_)) <;> conv => whnf)
                | ((with_reducible refine Split.mk (fun _ => ?_) (fun _ => ?_)) <;> conv => whnf)
                | ((with_reducible refine NilK.mk (fun _ => ?_) ?_) <;> conv => whnf)
                | ((with_reducible refine AltK.l ?_); (conv => whnf); (with_reducible refine Need.mk ?_ ?_); (first | omega | (refine ⟨?_, ?_⟩ <;> simp <;> omega) | (simp; omega)); conv => whnf)
                | ((with_reducible refine Need.mk ?_ ?_); (first | omega | rfl | decide | (refine ⟨?_, ?_⟩ <;> simp <;> omega) | (simp; omega)); conv => whnf)
                | ((with_reducible refine Wr.quo ?_ ?_ ?_ ?_); omega; omega; omega; conv => whnf)
                | ((with_reducible refine Wr.inr ?_ ?_); (first | omega | (simp; omega)); conv => whnf)
                | ((with_reducible refine Wr.inu ?_ ?_); omega; conv => whnf)
                | (exfalso; first | omega | contradiction))
              rfl
        · rw [hs] at hgr
          simp only at hgr
          rw [hgr]
          conv => whnf
          repeat' (first
            | ((with_reducible refine Split.of_true ?_); conv => whnf)
            | ((with_reducible refine Split.of_false ?_); conv => whnf)
            | ((with_reducible refine Split.neg ?_))
            | ((with_reducible refine Split.is_true ?_ ?_); decide; conv => whnf)
            | ((with_reducible refine Split.is_false ?_ ?_); decide; conv => whnf)
            | ((with_reducible refine Split.nez (fun _ => ?_) (fun _ => ?_)) <;> conv => whnf)
            | ((with_reducible refine Split.eqz (fun _ => ?_) (fun _ => ?_)) <;> conv => whnf)
            | ((with_reducible refine Split.and ?_))
            | ((with_reducible refine Split.or ?_))
            | ((with_reducible refine Split.streq (fun _ => ?_) (fun _ => ?_)) <;> conv => whnf)
            | ((with_reducible refine Split.dec (fun _ => ?_) (fun _ => ?_)) <;> conv => whnf)
            | ((with_reducible refine Split.mk (fun _ => ?_) (fun _ => ?_)) <;> conv => whnf)
            | ((with_reducible refine NilK.mk (fun _ => ?_) ?_) <;> conv => whnf)
            | ((with_reducible refine AltK.l ?_); (conv => whnf); (with_reducible refine Need.mk ?_ ?_); (first | omega | (refine ⟨?_, ?_⟩ <;> simp <;> omega) | (simp; omega)); conv => whnf)
            | ((with_reducible refine Need.mk ?_ ?_); (first | omega | rfl | decide | (refine ⟨?_, ?_⟩ <;> simp <;> omega) | (simp; omega)); conv => whnf)
            | ((with_reducible refine Wr.quo ?_ ?_ ?_ ?_); omega; omega; omega; conv => whnf)
            | ((with_reducible refine Wr.inr ?_ ?_); (first | omega | (simp; omega)); conv => whnf)
            | ((with_reducible refine Wr.inu ?_ ?_); omega; conv => whnf)
            | (exfalso; first | omega | contradiction))
          refine LookK.byN hoN (fun t ht => ?_) (fun ht => ?_)
          all_goals
            conv => whnf
            repeat' (first
              | ((with_reducible refine Split.of_true ?_); conv => whnf)
              | ((with_reducible refine Split.of_false ?_); conv => whnf)
              | ((with_reducible refine Split.neg ?_))
              | ((with_reducible refine Split.is_true ?_ ?_); decide; conv => whnf)
              | ((with_reducible refine Split.is_false ?_ ?_); decide; conv => whnf)
              | ((with_reducible refine Split.nez (fun _ => ?_) (fun _ => ?_)) <;> conv => whnf)
              | ((with_reducible refine Split.eqz (fun _ => ?_) (fun _ => ?_)) <;> conv => whnf)
              | ((with_reducible refine Split.and ?_))
              | ((with_reducible refine Split.or ?_))
              | ((with_reducible refine Split.streq (fun _ => ?_) (fun _ => ?_)) <;> conv => whnf)
              | ((with_reducible refine Split.dec (fun _ => ?_) (fun _ => ?_)) <;> conv => whnf)
              | ((with_reducible refine Split.mk (fun _ => ?_) (fun _ => ?_)) <;> conv => whnf)
              | ((with_reducible refine NilK.mk (fun _ => ?_) ?_) <;> conv => whnf)
              | ((with_reducible refine AltK.l ?_); (conv => whnf); (with_reducible refine Need.mk ?_ ?_); (first | omega | (refine ⟨?_, ?_⟩ <;> simp <;> omega) | (simp; omega)); conv => whnf)
              | ((with_reducible refine Need.mk ?_ ?_); (first | omega | rfl | decide | (refine ⟨?_, ?_⟩ <;> simp <;> omega) | (simp; omega)); conv => whnf)
              | ((with_reducible refine Wr.quo ?_ ?_ ?_ ?_); omega; omega; omega; conv => whnf)
              | ((with_reducible refine Wr.inr ?_ ?_); (first | omega | (simp; omega)); conv => whnf)
              | ((with_reducible refine Wr.inu ?_ ?_); omega; conv => whnf)
              | (exfalso; first | omega | contradiction))
            refine LookK.byN hoN (fun z hz => ?_) (fun hz => ?_)
            all_goals
              conv => whnf
              repeat' (first
                | ((with_reducible refine Split.of_true ?_); conv => whnf)
                | ((with_reducible refine Split.of_false ?_); conv => whnf)
                | ((with_reducible refine Split.neg ?_))
                | ((with_reducible refine Split.is_true ?_ ?_); decide; conv => whnf)
                | ((with_reducible refine Split.is_false ?_ ?_); decide; conv => whnf)
                | ((with_reducible refine Split.nez (fun _ => ?_) (fun _ => ?_)) <;> conv => whnf)
                | ((with_reducible refine Split.eqz (fun _ => ?_) (fun _ => ?_)) <;> conv => whnf)
                | ((with_reducible refine Split.and ?_))
                | ((with_reducible refine Split.or ?_))
                | ((with_reducible refine Split.streq (fun _ => ?_) (fun _ => ?_)) <;> conv => whnf)
                | ((with_reducible refine Split.dec (fun _ => ?_) (fun _ => ?_)) <;> conv => whnf)
                | ((with_reducible refine Split.mk (fun _ => ?_) (fun _ => ?_)) <;> conv => whnf)
                | ((with_reducible refine NilK.mk (fun _ => ?_) ?_) <;> conv => whnf)
                | ((with_reducible refine AltK.l ?_); (conv => whnf); (with_reducible refine Need.mk ?_ ?_); (first | omega | (refine ⟨?_, ?_⟩ <;> simp <;> omega) | (simp; omega)); conv => whnf)
                | ((with_reducible refine Need.mk ?_ ?_); (first | omega | rfl | decide | (refine ⟨?_, ?_⟩ <;> simp <;> omega) | (simp; omega)); conv => whnf)
                | ((with_reducible refine Wr.quo ?_ ?_ ?_ ?_); omega; omega; omega; conv => whnf)
                | ((with_reducible refine Wr.inr ?_ ?_); (first | omega | (simp; omega)); conv => whnf)
                | ((with_reducible refine Wr.inu ?_ ?_); omega; conv => whnf)
                | (exfalso; first | omega | contradiction))
              rfl
      · rw [List.drop_eq_nil_of_le (by omega), gRun] at hgr
        rw [hgr]
        conv => whnf
        repeat' (first
          | ((with_reducible refine Split.of_true ?_); conv => whnf)
          | ((with_reducible refine Split.of_false ?_); conv => whnf)
          | ((with_reducible refine Split.neg ?_))
          | ((with_reducible refine Split.is_true ?_ ?_); decide; conv => whnf)
          | ((with_reducible refine Split.is_false ?_ ?_); decide; conv => whnf)
          | ((with_reducible refine Split.nez (fun _ => ?_) (fun _ => ?_)) <;> conv => whnf)
          | ((with_reducible refine Split.eqz (fun _ => ?_) (fun _ => ?_)) <;> conv => whnf)
          | ((with_reducible refine Split.and ?_))
          | ((with_reducible refine Split.or ?_))
          | ((with_reducible refine Split.streq (fun _ => ?_) (fun _ => ?_)) <;> conv => whnf)
          | ((with_reducible refine Split.dec (fun _ => ?_) (fun _ => ?_)) <;> conv => whnf)
          | ((with_reducible refine Split.mk (fun _ => ?_) (fun _ => ?_)) <;> conv => whnf)
          | ((with_reducible refine NilK.mk (fun _ => ?_) ?_) <;> conv => whnf)
          | ((with_reducible refine AltK.l ?_); (conv => whnf); (with_reducible refine Need.mk ?_ ?_); (first | omega | (refine ⟨?_, ?_⟩ <;> simp <;> omega) | (simp; omega)); conv => whnf)
          | ((with_reducible refine Need.mk ?_ ?_); (first | omega | rfl | decide | (refine ⟨?_, ?_⟩ <;> simp <;> omega) | (simp; omega)); conv => whnf)
          | ((with_reducible refine Wr.quo ?_ ?_ ?_ ?_); omega; omega; omega; conv => whnf)
          | ((with_reducible refine Wr.inr ?_ ?_); (first | omega | (simp; omega)); conv => whnf)
          | ((with_reducible refine Wr.inu ?_ ?_); omega; conv => whnf)
          | (exfalso; first | omega | contradiction))
        rfl
  · rw [decide_eq_false c0, Bool.false_and]
    refine ev_of_awp tysOk mixed (fn := Tryz.f100) Tryz.func100 rfl rfl rfl ?_
    conv => whnf
    repeat' (first
      | ((with_reducible refine Split.of_true ?_); conv => whnf)
      | ((with_reducible refine Split.of_false ?_); conv => whnf)
      | ((with_reducible refine Split.neg ?_))
      | ((with_reducible refine Split.is_true ?_ ?_); decide; conv => whnf)
      | ((with_reducible refine Split.is_false ?_ ?_); decide; conv => whnf)
      | ((with_reducible refine Split.nez (fun _ => ?_) (fun _ => ?_)) <;> conv => whnf)
      | ((with_reducible refine Split.eqz (fun _ => ?_) (fun _ => ?_)) <;> conv => whnf)
      | ((with_reducible refine Split.and ?_))
      | ((with_reducible refine Split.or ?_))
      | ((with_reducible refine Split.streq (fun _ => ?_) (fun _ => ?_)) <;> conv => whnf)
      | ((with_reducible refine Split.dec (fun _ => ?_) (fun _ => ?_)) <;> conv => whnf)
      | ((with_reducible refine Split.mk (fun _ => ?_) (fun _ => ?_)) <;> conv => whnf)
      | ((with_reducible refine NilK.mk (fun _ => ?_) ?_) <;> conv => whnf)
      | ((with_reducible refine AltK.l ?_); (conv => whnf); (with_reducible refine Need.mk ?_ ?_); (first | omega | (refine ⟨?_, ?_⟩ <;> simp <;> omega) | (simp; omega)); conv => whnf)
      | ((with_reducible refine Need.mk ?_ ?_); (first | omega | rfl | decide | (refine ⟨?_, ?_⟩ <;> simp <;> omega) | (simp; omega)); conv => whnf)
      | ((with_reducible refine Wr.quo ?_ ?_ ?_ ?_); omega; omega; omega; conv => whnf)
      | ((with_reducible refine Wr.inr ?_ ?_); (first | omega | (simp; omega)); conv => whnf)
      | ((with_reducible refine Wr.inu ?_ ?_); omega; conv => whnf)
      | (exfalso; first | omega | contradiction))
    all_goals rfl
theorem ev_CheckThin (l : List Sg) (r : Int) (k : List Int) (g : List (Int × Int)) (hk : k.length ≤ 1000) (hg : g.length ≤ 1000) : Ev Tryz.prog 40 [.sl 5 (l.map sgD), iD r, thD k g] (iD (ctErr l r k g)) := by
  have h1 := ev_CheckS l
  have h2 := ev_checkRadius r
  unfold ctErr
  by_cases c0 : chkErr sgB Sg.n l = 0
  · rw [if_neg (by simpa using c0)]
    rw [c0] at h1
    obtain ⟨hl5, hall, hu⟩ := chk_zero c0
    by_cases r0 : radB r = 0
    · rw [if_neg (by simpa using r0)]
      rw [r0] at h2
      have h3 := ev_right l r k g hu hl5 (fun s hs => sg_place (hall s hs)) (rad_bd r0) hk hg
      cases hb : rightB l r k g with
      | true =>
        rw [hb] at h3
        refine ev_of_awp tysOk mixed (fn := Tryz.f40) Tryz.func40 rfl rfl rfl ?_
        conv => whnf
        repeat' (first
          | ((with_reducible refine Split.of_true ?_); conv => whnf)
          | ((with_reducible refine Split.of_false ?_); conv => whnf)
          | ((with_reducible refine Split.neg ?_))
          | ((with_reducible refine Split.is_true ?_ ?_); decide; conv => whnf)
          | ((with_reducible refine Split.is_false ?_ ?_); decide; conv => whnf)
          | ((with_reducible refine Split.nez (fun _ => ?_) (fun _ => ?_)) <;> conv => whnf)
          | ((with_reducible refine Split.eqz (fun _ => ?_) (fun _ => ?_)) <;> conv => whnf)
          | ((with_reducible refine Split.and ?_))
          | ((with_reducible refine Split.or ?_))
          | ((with_reducible refine Split.streq (fun _ => ?_) (fun _ => ?_)) <;> conv => whnf)
          | ((with_reducible refine Split.dec (fun _ => ?_) (fun _ => ?_)) <;> conv => whnf)
          | ((with_reducible refine Split.mk (fun _ => ?_) (fun _ => ?_)) <;> conv => whnf)
          | ((with_reducible refine NilK.mk (fun _ => ?_) ?_) <;> conv => whnf)
          | ((with_reducible refine AltK.l ?_); (conv => whnf); (with_reducible refine Need.mk ?_ ?_); (first | omega | (refine ⟨?_, ?_⟩ <;> simp <;> omega) | (simp; omega)); conv => whnf)
          | ((with_reducible refine Need.mk ?_ ?_); (first | omega | rfl | decide | (refine ⟨?_, ?_⟩ <;> simp <;> omega) | (simp; omega)); conv => whnf)
          | ((with_reducible refine Wr.quo ?_ ?_ ?_ ?_); omega; omega; omega; conv => whnf)
          | ((with_reducible refine Wr.inr ?_ ?_); (first | omega | (simp; omega)); conv => whnf)
          | ((with_reducible refine Wr.inu ?_ ?_); omega; conv => whnf)
          | ((with_reducible refine AltK.l ?_); (conv => whnf); (first | (refine CallK.mk _ (h1) ?_) | (refine CallK.mk _ (h2) ?_) | (refine CallK.mk _ (h3) ?_)); conv => whnf)
          | (exfalso; first | omega | contradiction))
        rfl
      | false =>
        rw [hb] at h3
        refine ev_of_awp tysOk mixed (fn := Tryz.f40) Tryz.func40 rfl rfl rfl ?_
        conv => whnf
        repeat' (first
          | ((with_reducible refine Split.of_true ?_); conv => whnf)
          | ((with_reducible refine Split.of_false ?_); conv => whnf)
          | ((with_reducible refine Split.neg ?_))
          | ((with_reducible refine Split.is_true ?_ ?_); decide; conv => whnf)
          | ((with_reducible refine Split.is_false ?_ ?_); decide; conv => whnf)
          | ((with_reducible refine Split.nez (fun _ => ?_) (fun _ => ?_)) <;> conv => whnf)
          | ((with_reducible refine Split.eqz (fun _ => ?_) (fun _ => ?_)) <;> conv => whnf)
          | ((with_reducible refine Split.and ?_))
          | ((with_reducible refine Split.or ?_))
          | ((with_reducible refine Split.streq (fun _ => ?_) (fun _ => ?_)) <;> conv => whnf)
          | ((with_reducible refine Split.dec (fun _ => ?_) (fun _ => ?_)) <;> conv => whnf)
          | ((with_reducible refine Split.mk (fun _ => ?_) (fun _ => ?_)) <;> conv => whnf)
          | ((with_reducible refine NilK.mk (fun _ => ?_) ?_) <;> conv => whnf)
          | ((with_reducible refine AltK.l ?_); (conv => whnf); (with_reducible refine Need.mk ?_ ?_); (first | omega | (refine ⟨?_, ?_⟩ <;> simp <;> omega) | (simp; omega)); conv => whnf)
          | ((with_reducible refine Need.mk ?_ ?_); (first | omega | rfl | decide | (refine ⟨?_, ?_⟩ <;> simp <;> omega) | (simp; omega)); conv => whnf)
          | ((with_reducible refine Wr.quo ?_ ?_ ?_ ?_); omega; omega; omega; conv => whnf)
          | ((with_reducible refine Wr.inr ?_ ?_); (first | omega | (simp; omega)); conv => whnf)
          | ((with_reducible refine Wr.inu ?_ ?_); omega; conv => whnf)
          | ((with_reducible refine AltK.l ?_); (conv => whnf); (first | (refine CallK.mk _ (h1) ?_) | (refine CallK.mk _ (h2) ?_) | (refine CallK.mk _ (h3) ?_)); conv => whnf)
          | (exfalso; first | omega | contradiction))
        rfl
    · rw [if_pos r0]
      refine ev_of_awp tysOk mixed (fn := Tryz.f40) Tryz.func40 rfl rfl rfl ?_
      conv => whnf
      repeat' (first
        | ((with_reducible refine Split.of_true ?_); conv => whnf)
        | ((with_reducible refine Split.of_false ?_); conv => whnf)
        | ((with_reducible refine Split.neg ?_))
        | ((with_reducible refine Split.is_true ?_ ?_); decide; conv => whnf)
        | ((with_reducible refine Split.is_false ?_ ?_); decide; conv => whnf)
        | ((with_reducible refine Split.nez (fun _ => ?_) (fun _ => ?_)) <;> conv => whnf)
        | ((with_reducible refine Split.eqz (fun _ => ?_) (fun _ => ?_)) <;> conv => whnf)
        | ((with_reducible refine Split.and ?_))
        | ((with_reducible refine Split.or ?_))
        | ((with_reducible refine Split.streq (fun _ => ?_) (fun _ => ?_)) <;> conv => whnf)
        | ((with_reducible refine Split.dec (fun _ => ?_) (fun _ => ?_)) <;> conv => whnf)
        | ((with_reducible refine Split.mk (fun _ => ?_) (fun _ => ?_)) <;> conv => whnf)
        | ((with_reducible refine NilK.mk (fun _ => ?_) ?_) <;> conv => whnf)
        | ((with_reducible refine AltK.l ?_); (conv => whnf); (with_reducible refine Need.mk ?_ ?_); (first | omega | (refine ⟨?_, ?_⟩ <;> simp <;> omega) | (simp; omega)); conv => whnf)
        | ((with_reducible refine Need.mk ?_ ?_); (first | omega | rfl | decide | (refine ⟨?_, ?_⟩ <;> simp <;> omega) | (simp; omega)); conv => whnf)
        | ((with_reducible refine Wr.quo ?_ ?_ ?_ ?_); omega; omega; omega; conv => whnf)
        | ((with_reducible refine Wr.inr ?_ ?_); (first | omega | (simp; omega)); conv => whnf)
        | ((with_reducible refine Wr.inu ?_ ?_); omega; conv => whnf)
        | ((with_reducible refine AltK.l ?_); (conv => whnf); (first | (refine CallK.mk _ (h1) ?_) | (refine CallK.mk _ (h2) ?_)); conv => whnf)
        | (exfalso; first | omega | contradiction))
      all_goals simp_all [retOf, iD]
  · rw [if_pos c0]
    refine ev_of_awp tysOk mixed (fn := Tryz.f40) Tryz.func40 rfl rfl rfl ?_
    conv => whnf
    repeat' (first
      | ((with_reducible refine Split.of_true ?_); conv => whnf)
      | ((with_reducible refine Split.of_false ?_); conv => whnf)
      | ((with_reducible refine Split.neg ?_))
      | ((with_reducible refine Split.is_true ?_ ?_); decide; conv => whnf)
      | ((with_reducible refine Split.is_false ?_ ?_); decide; conv => whnf)
      | ((with_reducible refine Split.nez (fun _ => ?_) (fun _ => ?_)) <;> conv => whnf)
      | ((with_reducible refine Split.eqz (fun _ => ?_) (fun _ => ?_)) <;> conv => whnf)
      | ((with_reducible refine Split.and ?_))
      | ((with_reducible refine Split.or ?_))
      | ((with_reducible refine Split.streq (fun _ => ?_) (fun _ => ?_)) <;> conv => whnf)
      | ((with_reducible refine Split.dec (fun _ => ?_) (fun _ => ?_)) <;> conv => whnf)
      | ((with_reducible refine Split.mk (fun _ => ?_) (fun _ => ?_)) <;> conv => whnf)
      | ((with_reducible refine NilK.mk (fun _ => ?_) ?_) <;> conv => whnf)
      | ((with_reducible refine AltK.l ?_); (conv => whnf); (with_reducible refine Need.mk ?_ ?_); (first | omega | (refine ⟨?_, ?_⟩ <;> simp <;> omega) | (simp; omega)); conv => whnf)
      | ((with_reducible refine Need.mk ?_ ?_); (first | omega | rfl | decide | (refine ⟨?_, ?_⟩ <;> simp <;> omega) | (simp; omega)); conv => whnf)
      | ((with_reducible refine Wr.quo ?_ ?_ ?_ ?_); omega; omega; omega; conv => whnf)
      | ((with_reducible refine Wr.inr ?_ ?_); (first | omega | (simp; omega)); conv => whnf)
      | ((with_reducible refine Wr.inu ?_ ?_); omega; conv => whnf)
      | ((with_reducible refine AltK.l ?_); (conv => whnf); (first | (refine CallK.mk _ (h1) ?_) | (refine CallK.mk _ (h2) ?_)); conv => whnf)
      | (exfalso; first | omega | contradiction))
    all_goals simp_all [retOf, iD]
end Go.Proofs.Tryz
end
