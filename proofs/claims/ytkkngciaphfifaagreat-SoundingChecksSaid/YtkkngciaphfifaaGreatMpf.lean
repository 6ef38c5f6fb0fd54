/- Texts SdSb, joined; what is not needed is left out. -/
import Derived.Test.YtkkngciaphfifaaGreatMpe
section
namespace Go.Proofs.Tryz
open Go Go.Vm Go.Sort
set_option maxRecDepth 20000
set_option maxHeartbeats 8000000
/-! The reference's Right; SoundingChecks. -/
theorem find_of {l : List Sg} {n : Int} {s : Sg} (h : (l.find? fun s => s.n == n) = some s) : ∃ j : Nat, findS l n = (j : Int) ∧ l[j]? = some s := by
  rw [List.find?_eq_some_iff_getElem] at h
  obtain ⟨h1, i, hi, h2, h3⟩ := h
  have : l.findIdx? (fun s => s.n == n) = some i := by
    rw [List.findIdx?_eq_some_iff_getElem]
    exact ⟨hi, by rw [h2]; exact h1, fun j hj => by simpa using h3 j hj⟩
  exact ⟨i, by rw [findS]; simp only [this], by rw [List.getElem?_eq_getElem hi, h2]⟩
theorem find_nope {l : List Sg} {n : Int} (h : (l.find? fun s => s.n == n) = none) : findS l n = -1 := find_none (find_any.1 h)
theorem dnF_up {l : List Sg} {k : List Int} {i : Nat} {o : List Sg} (h : KOk l k i o) {s : Sg} (hu : notUp o s.n = false) : dnF o s = false := by
  rw [dnF_not]
  intro t ht e
  rcases nil_or_snoc o with rfl | ⟨q, z, rfl⟩
  · cases ht
  · simp [notUp] at hu
    rcases List.mem_append.1 ht with ht | ht
    · have := (List.pairwise_append.1 h.up).2.2 t ht z (by simp)
      omega
    · rw [List.mem_singleton.1 ht] at e; omega
theorem pick_as {es : List D} {j c : Nat} {d : D} {k : D → Prop} (h : es[c]? = some d) (e : j = c) (r : k d) : PickE es j k := ⟨d, by rw [e]; exact h, r⟩
def snB (o : List Sg) (g : List (Int × Int)) (s : Sg) : Bool := dnF o s || g.any fun x => x.1 == s.n
theorem ev_RightR (l : List Sg) (r : Int) (k : List Int) (g : List (Int × Int)) (hu : NoTwo l) (hl : l.length ≤ 500) (hp : ∀ s ∈ l, -1000000 ≤ s.x ∧ s.x ≤ 1000000 ∧ -1000000 ≤ s.y ∧ s.y ≤ 1000000) (hr : 0 ≤ r ∧ r ≤ 2000000) (hk : k.length ≤ 1000) (hg : g.length ≤ 1000) :
    Ev Tryz.prog 101 [.sl 5 (l.map sgD), iD r, thD k g] (.bool (rightB l r k g)) := by
  have hlen : (l.map sgD).length = l.length := List.length_map _
  have hlk : (k.map iD).length = k.length := List.length_map _
  have hlg : (g.map gdD).length = g.length := List.length_map _
  have hrr := mul_bd (x := r) (y := r) (X := 2000000) (Y := 2000000) (by omega) (by omega)
  unfold rightB
  by_cases c0 : k.length + g.length = l.length
  · rw [decide_eq_true c0, Bool.true_and]
    have hmp2 : List.replicate ((l.map sgD).length : Int).toNat (D.bool false) = l.map fun s => D.bool (dnF [] s) := by
      rw [Int.toNat_natCast, hlen]; exact (dn_zero l).symm
    refine ev_of_awp tysOk mixed (fn := Tryz.f101) Tryz.func101 rfl rfl rfl ?_
    conv => whnf
    repeat' (first
      | ((with_reducible refine Split.of_true ?_); conv => whnf)
      | ((with_reducible refine Split.of_false ?_); conv => whnf)
      | ((with_reducible refine Split.neg ?_))
      | ((with_reducible refine Split.is_true ?_ ?_); decide; conv => whnf)
      | ((with_reducible refine Split.is_false ?_ ?_); decide; conv => whnf)
      | ((with_reducible refine Split.nez (fun _ => ?_) (fun _ => ?_)) <;> conv => whnf)
      | ((with_reducible refine Split.eqz (fun _ => ?_) (fun _ => ?_)) <;> conv => whnf)
      | ((with_reducible refine Split.and ?_))
      | ((with_reducible refine Split.or ?_))
      | ((with_reducible refine Split.streq (fun _ => ?_) (fun _ => ?_)) <;> conv => whnf)
      | ((with_reducible refine Split.dec (fun _ => ?_) (fun _ => ?_)) <;> conv => whnf)
      | ((with_reducible refine Split.mk (fun _ => ?_) (fun _ => ?_)) <;> conv => whnf)
      | ((with_reducible refine NilK.mk (fun _ => ?_) ?_) <;> conv => whnf)
      | ((with_reducible refine AltK.l ?_); (conv => whnf); (with_reducible refine Need.mk ?_ ?_); (first | omega | (refine ⟨?_, ?_⟩ <;> simp <;> omega) | (simp; omega)); conv => whnf)
      | ((with_reducible refine Need.mk ?_ ?_); (first | omega | rfl | decide | (refine ⟨?_, ?_⟩ <;> simp <;> omega) | (simp; omega)); conv => whnf)
      | ((with_reducible refine Wr.quo ?_ ?_ ?_ ?_); omega; omega; omega; conv => whnf)
      | ((with_reducible refine Wr.inr ?_ ?_); (first | omega | (simp; omega)); conv => whnf)
      | ((with_reducible refine Wr.inu ?_ ?_); omega; conv => whnf)
      | (exfalso; first | omega | contradiction))
    refine LoopK.o2 (fun x : Nat × List Sg => x.1 ≤ k.length ∧ KOk l k x.1 x.2 ∧ kRun l r [] k = kRun l r x.2 (k.drop x.1)) (fun x => [(8, .own 200 5 (x.2.map sgD).length), (9, .d (.int .i64 x.1))]) (fun x => [(200, .row 36 5 (x.2.map sgD) false), (27, .row 4 1 (l.map fun s => .bool (dnF x.2 s)) false)]) (fun x => k.length - x.1) (0, []) ⟨by simp, ⟨rfl, fun s h => by simp at h, .nil⟩, rfl⟩ (by refine ⟨?_, ?_, rfl⟩ <;> (repeat' (first | exact True.intro | exact rfl | refine ⟨?_, ?_⟩ | (intro h; cases h; done) | (intro h; exact h) | exact map_snoc | (refine own_congr ?_; simp; done) | (refine int_congr ?_; (first | omega | (simp; omega))) | (simp; done) | exact hmp2 | ((first | refine own_congr ?_ | refine int_congr ?_ | skip); simp [D.cells]; done) | ((first | refine own_congr ?_ | refine int_congr ?_); simp [D.cells]; omega) | (show @Eq (List Go.Vm.D) _ []; simp [D.cells]; done) | (simp [D.cells, D.cells]; done)))) ?_
    rintro ⟨i, o⟩ ⟨hi, hK, hrun⟩
    dsimp only at hi hK hrun
    have hnx : (i : Int) < k.length → ∃ m, k[i]? = some m := fun h => some_of_lt (by omega)
    by_cases hik : i < k.length
    · obtain ⟨n, hn⟩ := hnx (by omega)
      rw [kRun_at hn] at hrun
      have hpv := hK.prev (n := n) hi
      cases hs : l.find? fun s => s.n == n with
      | none =>
        rw [hs] at hrun
        simp only at hrun
        have h1 := ev_Find l n (by omega)
        rw [find_nope hs] at h1
        rw [hrun]
        conv => whnf
        repeat' (first
          | ((refine PickE.map i hn (by omega) ?_); conv => whnf)
          | ((with_reducible refine Split.of_true ?_); conv => whnf)
          | ((with_reducible refine Split.of_false ?_); conv => whnf)
          | ((with_reducible refine Split.neg ?_))
          | ((with_reducible refine Split.is_true ?_ ?_); decide; conv => whnf)
          | ((with_reducible refine Split.is_false ?_ ?_); decide; conv => whnf)
          | ((with_reducible refine Split.nez (fun _ => ?_) (fun _ => ?_)) <;> conv => whnf)
          | ((with_reducible refine Split.eqz (fun _ => ?_) (fun _ => ?_)) <;> conv => whnf)
          | ((with_reducible refine Split.and ?_))
          | ((with_reducible refine Split.or ?_))
          | ((with_reducible refine Split.streq (fun _ => ?_) (fun _ => ?_)) <;> conv => whnf)
          | ((with_reducible refine Split.dec (fun _ => ?_) (fun _ => ?_)) <;> conv => whnf)
          | ((with_reducible refine Split.mk (fun _ => ?_) (fun _ => ?_)) <;> conv => whnf)
          | ((with_reducible refine NilK.mk (fun _ => ?_) ?_) <;> conv => whnf)
          | ((with_reducible refine AltK.l ?_); (conv => whnf); (with_reducible refine Need.mk ?_ ?_); (first | omega | (refine ⟨?_, ?_⟩ <;> simp <;> omega) | (simp; omega)); conv => whnf)
          | ((with_reducible refine Need.mk ?_ ?_); (first | omega | rfl | decide | (refine ⟨?_, ?_⟩ <;> simp <;> omega) | (simp; omega)); conv => whnf)
          | ((with_reducible refine Wr.quo ?_ ?_ ?_ ?_); omega; omega; omega; conv => whnf)
          | ((with_reducible refine Wr.inr ?_ ?_); (first | omega | (simp; omega)); conv => whnf)
          | ((with_reducible refine Wr.inu ?_ ?_); omega; conv => whnf)
          | ((with_reducible refine AltK.l ?_); (conv => whnf); (first | (refine CallK.mk _ (h1) ?_)); conv => whnf)
          | (exfalso; first | omega | contradiction))
        rfl
      | some s =>
        rw [hs] at hrun
        simp only at hrun
        obtain ⟨hsl, rfl⟩ := find_mem hs
        obtain ⟨c, hc, hcs⟩ := find_of hs
        have hcl := (List.getElem?_eq_some_iff.1 hcs).1
        have hsp := hp s hsl
        have h1 := ev_Find l s.n (by omega)
        rw [hc] at h1
        have hol := hK.len
        cases hnu : notUp o s.n with
        | true =>
          have h0 : 0 < i := by
            rcases Nat.eq_zero_or_pos i with h0 | h0
            · rw [hpv.1 h0] at hnu; cases hnu
            · exact h0
          obtain ⟨q, hq⟩ := some_of_lt (l := k) (i := i - 1) (by omega)
          have hnq := hpv.2 q h0 hq
          rw [hnu, eq_comm, decide_eq_true_eq] at hnq
          rw [if_pos hnu] at hrun
          rw [hrun]
          conv => whnf
          repeat' (first
            | ((refine PickE.map c hcs (by omega) ?_); conv => whnf)
            | ((refine PickE.map (i - 1) hq (by omega) ?_); conv => whnf)
            | ((refine PickE.map i hn (by omega) ?_); conv => whnf)
            | ((with_reducible refine Split.of_true ?_); conv => whnf)
            | ((with_reducible refine Split.of_false ?_); conv => whnf)
            | ((with_reducible refine Split.neg ?_))
            | ((with_reducible refine Split.is_true ?_ ?_); decide; conv => whnf)
            | ((with_reducible refine Split.is_false ?_ ?_); decide; conv => whnf)
            | ((with_reducible refine Split.nez (fun _ => ?_) (fun _ => ?_)) <;> conv => whnf)
            | ((with_reducible refine Split.eqz (fun _ => ?_) (fun _ => ?_)) <;> conv => whnf)
            | ((with_reducible refine Split.and ?_))
            | ((with_reducible refine Split.or ?_))
            | ((with_reducible refine Split.streq (fun _ => ?_) (fun _ => ?_)) <;> conv => whnf)
            | ((with_reducible refine Split.dec (fun _ => ?_) (fun _ => ?_)) <;> conv => whnf)
            | ((with_reducible refine Split.mk (fun _ => ?_) (fun _ => ?_)) <;> conv => whnf)
            | ((with_reducible refine NilK.mk (fun _ => ?_) ?_) <;> conv => whnf)
            | ((with_reducible refine AltK.l ?_); (conv => whnf); (with_reducible refine Need.mk ?_ ?_); (first | omega | (refine ⟨?_, ?_⟩ <;> simp <;> omega) | (simp; omega)); conv => whnf)
            | ((with_reducible refine Need.mk ?_ ?_); (first | omega | rfl | decide | (refine ⟨?_, ?_⟩ <;> simp <;> omega) | (simp; omega)); conv => whnf)
            | ((with_reducible refine Wr.quo ?_ ?_ ?_ ?_); omega; omega; omega; conv => whnf)
            | ((with_reducible refine Wr.inr ?_ ?_); (first | omega | (simp; omega)); conv => whnf)
            | ((with_reducible refine Wr.inu ?_ ?_); omega; conv => whnf)
            | ((with_reducible refine AltK.l ?_); (conv => whnf); (first | (refine CallK.mk _ (h1) ?_)); conv => whnf)
            | (exfalso; first | omega | contradiction))
          all_goals rfl
        | false =>
          rw [if_neg (by rw [hnu]; decide)] at hrun
          have hdn := dnF_up hK hnu
          have hK2 := hK.snoc hn hs hnu
          have hq : i = 0 ∨ ∃ q, k[i - 1]? = some q ∧ ¬ s.n ≤ q ∧ 0 < i := by
            rcases Nat.eq_zero_or_pos i with h0 | h0
            · exact .inl h0
            · obtain ⟨q, hq⟩ := some_of_lt (l := k) (i := i - 1) (by omega)
              have hnq := hpv.2 q h0 hq
              rw [hnu, eq_comm, decide_eq_false_iff_not] at hnq
              exact .inr ⟨q, hq, hnq, h0⟩
          have hmp5 : ((l.map fun s => D.bool (dnF o s)).set c (.bool true)) = l.map fun t => D.bool (dnF (o ++ [s]) t) := by
            refine set_map hcs (by simp [dnF]) (noTwo_nodup hu) fun y hy hyz => ?_
            have : (s.n == y.n) = false := by
              simp only [beq_eq_false_iff_ne]
              exact fun e => hyz (noTwo_eq hu y hy s hsl e.symm)
            simp only [dnF, List.any_append, List.any_cons, List.any_nil, this, Bool.or_false]
          have hsee : (l.map fun s => D.bool (dnF o s))[c]? = some (.bool false) := by rw [List.getElem?_map, hcs, Option.map_some, hdn]
          rcases hq with h0 | ⟨q, hq, hnq, h0⟩
          all_goals
            conv => whnf
            repeat' (first
              | ((refine pick_as hsee (by omega) ?_); conv => whnf)
              | ((refine PickE.map c hcs (by omega) ?_); conv => whnf)
              | ((refine PickE.map (i - 1) hq (by omega) ?_); conv => whnf)
              | ((refine PickE.map i hn (by omega) ?_); conv => whnf)
              | ((with_reducible refine Split.of_true ?_); conv => whnf)
              | ((with_reducible refine Split.of_false ?_); conv => whnf)
              | ((with_reducible refine Split.neg ?_))
              | ((with_reducible refine Split.is_true ?_ ?_); decide; conv => whnf)
              | ((with_reducible refine Split.is_false ?_ ?_); decide; conv => whnf)
              | ((with_reducible refine Split.nez (fun _ => ?_) (fun _ => ?_)) <;> conv => whnf)
              | ((with_reducible refine Split.eqz (fun _ => ?_) (fun _ => ?_)) <;> conv => whnf)
              | ((with_reducible refine Split.and ?_))
              | ((with_reducible refine Split.or ?_))
              | ((with_reducible refine Split.streq (fun _ => ?_) (fun _ => ?_)) <;> conv => whnf)
              | ((with_reducible refine Split.dec (fun _ => ?_) (fun _ => ?_)) <;> conv => whnf)
              | ((with_reducible refine Split.mk (fun _ => ?_) (fun _ => ?_)) <;> conv => whnf)
              | ((with_reducible refine NilK.mk (fun _ => ?_) ?_) <;> conv => whnf)
              | ((with_reducible refine AltK.l ?_); (conv => whnf); (with_reducible refine Need.mk ?_ ?_); (first | omega | (refine ⟨?_, ?_⟩ <;> simp <;> omega) | (simp; omega)); conv => whnf)
              | ((with_reducible refine Need.mk ?_ ?_); (first | omega | rfl | decide | (refine ⟨?_, ?_⟩ <;> simp <;> omega) | (simp; omega)); conv => whnf)
              | ((with_reducible refine Wr.quo ?_ ?_ ?_ ?_); omega; omega; omega; conv => whnf)
              | ((with_reducible refine Wr.inr ?_ ?_); (first | omega | (simp; omega)); conv => whnf)
              | ((with_reducible refine Wr.inu ?_ ?_); omega; conv => whnf)
              | ((with_reducible refine AltK.l ?_); (conv => whnf); (first | (refine CallK.mk _ (h1) ?_)); conv => whnf)
              | (exfalso; first | omega | contradiction))
            refine LoopK.o2 (fun k : Nat => k ≤ o.length ∧ ∀ t ∈ o.take k, ¬ sqS t s.x s.y ≤ r * r) (fun k => [(11, .d (.int .i64 k))]) (fun _ => []) (fun k => o.length - k) 0 ⟨by simp, fun t ht => by simp at ht⟩ (by refine ⟨?_, ?_, rfl⟩ <;> (repeat' (first | exact True.intro | exact rfl | refine ⟨?_, ?_⟩ | (intro h; cases h; done) | (intro h; exact h) | exact map_snoc | (refine own_congr ?_; simp; done) | (refine int_congr ?_; (first | omega | (simp; omega))) | (simp; done)))) ?_
            rintro m ⟨hm, hmf⟩
            have eo : (((i, o) : Nat × List Sg).2.map sgD).length = o.length := List.length_map _
            by_cases hmo : m < o.length
            · obtain ⟨t, ht⟩ := some_of_lt hmo
              have h4 := ev_apart t s (hp t (hK.sub t (List.mem_of_getElem? ht))) hsp
              conv => whnf
              repeat' (first
                | ((refine PickE.map c hcs (by omega) ?_); conv => whnf)
                | ((refine PickE.map m ht (by omega) ?_); conv => whnf)
                | ((with_reducible refine Split.of_true ?_); conv => whnf)
                | ((with_reducible refine Split.of_false ?_); conv => whnf)
                | ((with_reducible refine Split.neg ?_))
                | ((with_reducible refine Split.is_true ?_ ?_); decide; conv => whnf)
                | ((with_reducible refine Split.is_false ?_ ?_); decide; conv => whnf)
                | ((with_reducible refine Split.nez (fun _ => ?_) (fun _ => ?_)) <;> conv => whnf)
                | ((with_reducible refine Split.eqz (fun _ => ?_) (fun _ => ?_)) <;> conv => whnf)
                | ((with_reducible refine Split.and ?_))
                | ((with_reducible refine Split.or ?_))
                | ((with_reducible refine Split.streq (fun _ => ?_) (fun _ => ?_)) <;> conv => whnf)
                | ((with_reducible refine Split.dec (fun _ => ?_) (fun _ => ?_)) <;> conv => whnf)
                | ((with_reducible refine Split.mk (fun _ => ?_) (fun _ => ?_)) <;> conv => whnf)
                | ((with_reducible refine NilK.mk (fun _ => ?_) ?_) <;> conv => whnf)
                | ((with_reducible refine AltK.l ?_); (conv => whnf); (with_reducible refine Need.mk ?_ ?_); (first | omega | (refine ⟨?_, ?_⟩ <;> simp <;> omega) | (simp; omega)); conv => whnf)
                | ((with_reducible refine Need.mk ?_ ?_); (first | omega | rfl | decide | (refine ⟨?_, ?_⟩ <;> simp <;> omega) | (simp; omega)); conv => whnf)
                | ((with_reducible refine Wr.quo ?_ ?_ ?_ ?_); omega; omega; omega; conv => whnf)
                | ((with_reducible refine Wr.inr ?_ ?_); (first | omega | (simp; omega)); conv => whnf)
                | ((with_reducible refine Wr.inu ?_ ?_); omega; conv => whnf)
                | ((with_reducible refine AltK.l ?_); (conv => whnf); (first | (refine CallK.mk _ (h4) ?_)); conv => whnf)
                | (exfalso; first | omega | contradiction))
              all_goals first
                | (refine Again.au (m + 1) ⟨by omega, fun y hy => ?_⟩ (by omega) (by refine ⟨?_, ?_, rfl⟩ <;> (repeat' (first | exact True.intro | exact rfl | refine ⟨?_, ?_⟩ | (intro h; cases h; done) | (intro h; exact h) | exact map_snoc | (refine own_congr ?_; simp; done) | (refine int_congr ?_; (first | omega | (simp; omega))) | (simp; done))))
                   rw [take_snoc ht] at hy
                   rcases List.mem_append.1 hy with hy | hy
                   · exact hmf y hy
                   · rw [List.mem_singleton.1 hy]; assumption)
                | (have hy : (o.any fun k => decide (sqS k s.x s.y ≤ r * r)) = true := List.any_eq_true.2 ⟨t, List.mem_of_getElem? ht, decide_eq_true (by assumption)⟩
                   rw [hy, if_pos rfl] at hrun
                   rw [hrun]
                   try rfl)
            · have hno : (o.any fun k => decide (sqS k s.x s.y ≤ r * r)) = false := by
                rw [List.any_eq_false]
                intro z hz
                rw [← List.take_of_length_le (show o.length ≤ m by omega)] at hz
                have := hmf z hz
                simpa using this
              rw [hno, if_neg (by decide)] at hrun
              conv => whnf
              repeat' (first
                | ((refine PickE.map c hcs (by omega) ?_); conv => whnf)
                | ((with_reducible refine Split.of_true ?_); conv => whnf)
                | ((with_reducible refine Split.of_false ?_); conv => whnf)
                | ((with_reducible refine Split.neg ?_))
                | ((with_reducible refine Split.is_true ?_ ?_); decide; conv => whnf)
                | ((with_reducible refine Split.is_false ?_ ?_); decide; conv => whnf)
                | ((with_reducible refine Split.nez (fun _ => ?_) (fun _ => ?_)) <;> conv => whnf)
                | ((with_reducible refine Split.eqz (fun _ => ?_) (fun _ => ?_)) <;> conv => whnf)
                | ((with_reducible refine Split.and ?_))
                | ((with_reducible refine Split.or ?_))
                | ((with_reducible refine Split.streq (fun _ => ?_) (fun _ => ?_)) <;> conv => whnf)
                | ((with_reducible refine Split.dec (fun _ => ?_) (fun _ => ?_)) <;> conv => whnf)
                | ((with_reducible refine Split.mk (fun _ => ?_) (fun _ => ?_)) <;> conv => whnf)
                | ((with_reducible refine NilK.mk (fun _ => ?_) ?_) <;> conv => whnf)
                | ((with_reducible refine AltK.l ?_); (conv => whnf); (with_reducible refine Need.mk ?_ ?_); (first | omega | (refine ⟨?_, ?_⟩ <;> simp <;> omega) | (simp; omega)); conv => whnf)
                | ((with_reducible refine Need.mk ?_ ?_); (first | omega | rfl | decide | (refine ⟨?_, ?_⟩ <;> simp <;> omega) | (simp; omega)); conv => whnf)
                | ((with_reducible refine Wr.quo ?_ ?_ ?_ ?_); omega; omega; omega; conv => whnf)
                | ((with_reducible refine Wr.inr ?_ ?_); (first | omega | (simp; omega)); conv => whnf)
                | ((with_reducible refine Wr.inu ?_ ?_); omega; conv => whnf)
                | (exfalso; first | omega | contradiction))
              exact Again.au (i + 1, o ++ [s]) ⟨by dsimp only at *; omega, hK2, hrun⟩ (by dsimp only at *; omega) (by refine ⟨?_, ?_, rfl⟩ <;> (repeat' (first | exact True.intro | exact rfl | refine ⟨?_, ?_⟩ | (intro h; cases h; done) | (intro h; exact h) | exact map_snoc | (refine own_congr ?_; simp; done) | (refine int_congr ?_; (first | omega | (simp; omega))) | (simp; done) | exact hmp5 | ((first | refine own_congr ?_ | refine int_congr ?_ | skip); simp [sgD]; done) | ((first | refine own_congr ?_ | refine int_congr ?_); simp [sgD]; omega) | (show @Eq (List Go.Vm.D) _ []; simp [sgD]; done) | (simp [D.cells, sgD]; done))))
    · have hkr : kRun l r [] k = some o := by rw [hrun, List.drop_eq_nil_of_le (by omega)]; rfl
      rw [hkr]
      simp only
      have hoN : NoTwo o := up_noTwo hK.up
      have hol := hK.len
      have eo : (o.map sgD).length = o.length := List.length_map _
      have hmp3 : (l.map fun s => D.bool (dnF o s)) = l.map fun s => D.bool (snB o (g.take 0) s) := List.map_congr_left fun s _ => by simp [snB]
      conv => whnf
      repeat' (first
        | ((with_reducible refine Split.of_true ?_); conv => whnf)
        | ((with_reducible refine Split.of_false ?_); conv => whnf)
        | ((with_reducible refine Split.neg ?_))
        | ((with_reducible refine Split.is_true ?_ ?_); decide; conv => whnf)
        | ((with_reducible refine Split.is_false ?_ ?_); decide; conv => whnf)
        | ((with_reducible refine Split.nez (fun _ => ?_) (fun _ => ?_)) <;> conv => whnf)
        | ((with_reducible refine Split.eqz (fun _ => ?_) (fun _ => ?_)) <;> conv => whnf)
        | ((with_reducible refine Split.and ?_))
        | ((with_reducible refine Split.or ?_))
        | ((with_reducible refine Split.streq (fun _ => ?_) (fun _ => ?_)) <;> conv => whnf)
        | ((with_reducible refine Split.dec (fun _ => ?_) (fun _ => ?_)) <;> conv => whnf)
        | ((with_reducible refine Split.mk (fun _ => ?_) (fun _ => ?_)) <;> conv => whnf)
        | ((with_reducible refine NilK.mk (fun _ => ?_) ?_) <;> conv => whnf)
        | ((with_reducible refine AltK.l ?_); (conv => whnf); (with_reducible refine Need.mk ?_ ?_); (first | omega | (refine ⟨?_, ?_⟩ <;> simp <;> omega) | (simp; omega)); conv => whnf)
        | ((with_reducible refine Need.mk ?_ ?_); (first | omega | rfl | decide | (refine ⟨?_, ?_⟩ <;> simp <;> omega) | (simp; omega)); conv => whnf)
        | ((with_reducible refine Wr.quo ?_ ?_ ?_ ?_); omega; omega; omega; conv => whnf)
        | ((with_reducible refine Wr.inr ?_ ?_); (first | omega | (simp; omega)); conv => whnf)
        | ((with_reducible refine Wr.inu ?_ ?_); omega; conv => whnf)
        | (exfalso; first | omega | contradiction))
      refine LoopK.o2 (fun j : Nat => j ≤ g.length ∧ gRun l o r none g = gRun l o r (gPrev g j) (g.drop j) ∧ ∀ x ∈ g.take j, ∀ q, gPrev g j = some q → x.1 ≤ q) (fun j => [(12, .d (.int .i64 j))]) (fun j => [(200, .row 36 5 (o.map sgD) true), (27, .row 4 1 (l.map fun s => .bool (snB o (g.take j) s)) false)]) (fun j => g.length - j) 0 ⟨by simp, rfl, fun x hx => by simp at hx⟩ (by refine ⟨?_, ?_, rfl⟩ <;> (repeat' (first | exact True.intro | exact rfl | refine ⟨?_, ?_⟩ | (intro h; cases h; done) | (intro h; exact h) | exact map_snoc | (refine own_congr ?_; simp; done) | (refine int_congr ?_; (first | omega | (simp; omega))) | (simp; done) | exact hmp3 | ((first | refine own_congr ?_ | refine int_congr ?_ | skip); simp [D.cells]; done) | ((first | refine own_congr ?_ | refine int_congr ?_); simp [D.cells]; omega) | (show @Eq (List Go.Vm.D) _ []; simp [D.cells]; done) | (simp [D.cells, D.cells]; done)))) ?_
      rintro j ⟨hj, hgr, hup⟩
      have hgx : (j : Int) < g.length → ∃ m, g[j]? = some m := fun h => some_of_lt (by omega)
      by_cases hjg : j < g.length
      · obtain ⟨⟨u, v⟩, hx⟩ := hgx (by omega)
        rw [gRun_at hx] at hgr
        dsimp only at hgr
        have h1 := ev_Find l u (by omega)
        have h2 := ev_Find o v (by omega)
        cases hs : l.find? fun s => s.n == u with
        | none =>
          rw [hs] at hgr
          simp only at hgr
          rw [hgr]
          rw [find_nope hs] at h1
          conv => whnf
          repeat' (first
            | ((refine PickE.map j hx (by omega) ?_); conv => whnf)
            | ((with_reducible refine Split.of_true ?_); conv => whnf)
            | ((with_reducible refine Split.of_false ?_); conv => whnf)
            | ((with_reducible refine Split.neg ?_))
            | ((with_reducible refine Split.is_true ?_ ?_); decide; conv => whnf)
            | ((with_reducible refine Split.is_false ?_ ?_); decide; conv => whnf)
            | ((with_reducible refine Split.nez (fun _ => ?_) (fun _ => ?_)) <;> conv => whnf)
            | ((with_reducible refine Split.eqz (fun _ => ?_) (fun _ => ?_)) <;> conv => whnf)
            | ((with_reducible refine Split.and ?_))
            | ((with_reducible refine Split.or ?_))
            | ((with_reducible refine Split.streq (fun _ => ?_) (fun _ => ?_)) <;> conv => whnf)
            | ((with_reducible refine Split.dec (fun _ => ?_) (fun _ => ?_)) <;> conv => whnf)
            | ((with_reducible refine Split.mk (fun _ => ?_) (fun _ => ?_)) <;> conv => whnf)
            | ((with_reducible refine NilK.mk (fun _ => ?_) ?_) <;> conv => whnf)
            | ((with_reducible refine AltK.l ?_); (conv => whnf); (with_reducible refine Need.mk ?_ ?_); (first | omega | (refine ⟨?_, ?_⟩ <;> simp <;> omega) | (simp; omega)); conv => whnf)
            | ((with_reducible refine Need.mk ?_ ?_); (first | omega | rfl | decide | (refine ⟨?_, ?_⟩ <;> simp <;> omega) | (simp; omega)); conv => whnf)
            | ((with_reducible refine Wr.quo ?_ ?_ ?_ ?_); omega; omega; omega; conv => whnf)
            | ((with_reducible refine Wr.inr ?_ ?_); (first | omega | (simp; omega)); conv => whnf)
            | ((with_reducible refine Wr.inu ?_ ?_); omega; conv => whnf)
            | ((with_reducible refine AltK.l ?_); (conv => whnf); (first | (refine CallK.mk _ (h1) ?_) | (refine CallK.mk _ (h2) ?_)); conv => whnf)
            | (exfalso; first | omega | contradiction))
          rfl
        | some s =>
          rw [hs] at hgr
          obtain ⟨hsl, rfl⟩ := find_mem hs
          obtain ⟨c, hc, hcs⟩ := find_of hs
          have hcl := (List.getElem?_eq_some_iff.1 hcs).1
          have hsp := hp s hsl
          rw [hc] at h1
          cases ht : o.find? fun s => s.n == v with
          | none =>
            rw [ht] at hgr
            simp only at hgr
            rw [hgr]
            rw [find_nope ht] at h2
            conv => whnf
            repeat' (first
              | ((refine PickE.map j hx (by omega) ?_); conv => whnf)
              | ((with_reducible refine Split.of_true ?_); conv => whnf)
              | ((with_reducible refine Split.of_false ?_); conv => whnf)
              | ((with_reducible refine Split.neg ?_))
              | ((with_reducible refine Split.is_true ?_ ?_); decide; conv => whnf)
              | ((with_reducible refine Split.is_false ?_ ?_); decide; conv => whnf)
              | ((with_reducible refine Split.nez (fun _ => ?_) (fun _ => ?_)) <;> conv => whnf)
              | ((with_reducible refine Split.eqz (fun _ => ?_) (fun _ => ?_)) <;> conv => whnf)
              | ((with_reducible refine Split.and ?_))
              | ((with_reducible refine Split.or ?_))
              | ((with_reducible refine Split.streq (fun _ => ?_) (fun _ => ?_)) <;> conv => whnf)
              | ((with_reducible refine Split.dec (fun _ => ?_) (fun _ => ?_)) <;> conv => whnf)
              | ((with_reducible refine Split.mk (fun _ => ?_) (fun _ => ?_)) <;> conv => whnf)
              | ((with_reducible refine NilK.mk (fun _ => ?_) ?_) <;> conv => whnf)
              | ((with_reducible refine AltK.l ?_); (conv => whnf); (with_reducible refine Need.mk ?_ ?_); (first | omega | (refine ⟨?_, ?_⟩ <;> simp <;> omega) | (simp; omega)); conv => whnf)
              | ((with_reducible refine Need.mk ?_ ?_); (first | omega | rfl | decide | (refine ⟨?_, ?_⟩ <;> simp <;> omega) | (simp; omega)); conv => whnf)
              | ((with_reducible refine Wr.quo ?_ ?_ ?_ ?_); omega; omega; omega; conv => whnf)
              | ((with_reducible refine Wr.inr ?_ ?_); (first | omega | (simp; omega)); conv => whnf)
              | ((with_reducible refine Wr.inu ?_ ?_); omega; conv => whnf)
              | ((with_reducible refine AltK.l ?_); (conv => whnf); (first | (refine CallK.mk _ (h1) ?_) | (refine CallK.mk _ (h2) ?_)); conv => whnf)
              | (exfalso; first | omega | contradiction))
            rfl
          | some t =>
            rw [ht] at hgr
            simp only at hgr
            obtain ⟨hto, rfl⟩ := find_mem ht
            obtain ⟨e, he, hes⟩ := find_of ht
            have hel := (List.getElem?_eq_some_iff.1 hes).1
            rw [he] at h2
            have htp := hp t (hK.sub t hto)
            have h4 := ev_apart t s htp hsp
            have hdz : dnF o s = (o.find? fun z => z.n == s.n).isSome := by
              cases hz : o.find? fun z => z.n == s.n with
              | none => exact find_any.1 hz
              | some z => exact dnF_iff.2 ⟨z, find_mem hz⟩
            rw [← hdz] at hgr
            by_cases hbad : dnF o s = true ∨ gUp (gPrev g j) s.n = true
            · have hgr2 : gRun l o r none g = false := by
                rw [hgr]
                rcases hbad with h | h
                · rw [if_pos h]
                · rw [if_pos h]; split <;> rfl
              rw [hgr2]
              have hbp : dnF o s = true ∨ ∃ q, 0 < j ∧ g[j - 1]? = some q ∧ s.n ≤ q.1 := by
                rcases hbad with h | h
                · exact .inl h
                · right
                  cases j with
                  | zero => cases h
                  | succ j =>
                    obtain ⟨q, hq⟩ := some_of_lt (l := g) (i := j) (by omega)
                    refine ⟨q, by omega, hq, ?_⟩
                    simp only [gPrev, hq, Option.map_some, gUp, decide_eq_true_eq] at h
                    exact h
              rcases hbp with hb | ⟨⟨q1, q2⟩, h0, hq, huq⟩
              · have hsee : (l.map fun s => D.bool (snB o (g.take j) s))[c]? = some (.bool true) := by rw [List.getElem?_map, hcs, Option.map_some, snB, hb]; rfl
                conv => whnf
                repeat' (first
                  | ((refine pick_as hsee (by omega) ?_); conv => whnf)
                  | ((refine PickE.map j hx (by omega) ?_); conv => whnf)
                  | ((with_reducible refine Split.of_true ?_); conv => whnf)
                  | ((with_reducible refine Split.of_false ?_); conv => whnf)
                  | ((with_reducible refine Split.neg ?_))
                  | ((with_reducible refine Split.is_true ?_ ?_); decide; conv => whnf)
                  | ((with_reducible refine Split.is_false ?_ ?_); decide; conv => whnf)
                  | ((with_reducible refine Split.nez (fun _ => ?_) (fun _ => ?_)) <;> conv => whnf)
                  | ((with_reducible refine Split.eqz (fun _ => ?_) (fun _ => ?_)) <;> conv => whnf)
                  | ((with_reducible refine Split.and ?_))
                  | ((with_reducible refine Split.or ?_))
                  | ((with_reducible refine Split.streq (fun _ => ?_) (fun _ => ?_)) <;> conv => whnf)
                  | ((with_reducible refine Split.dec (fun _ => ?_) (fun _ => ?_)) <;> conv => whnf)
                  | ((with_reducible refine Split.mk (fun _ => ?_) (fun _ => ?_)) <;> conv => whnf)
                  | ((with_reducible refine NilK.mk (fun _ => ?_) ?_) <;> conv => whnf)
                  | ((with_reducible refine AltK.l ?_); (conv => whnf); (with_reducible refine Need.mk ?_ ?_); (first | omega | (refine ⟨?_, ?_⟩ <;> simp <;> omega) | (simp; omega)); conv => whnf)
                  | ((with_reducible refine Need.mk ?_ ?_); (first | omega | rfl | decide | (refine ⟨?_, ?_⟩ <;> simp <;> omega) | (simp; omega)); conv => whnf)
                  | ((with_reducible refine Wr.quo ?_ ?_ ?_ ?_); omega; omega; omega; conv => whnf)
                  | ((with_reducible refine Wr.inr ?_ ?_); (first | omega | (simp; omega)); conv => whnf)
                  | ((with_reducible refine Wr.inu ?_ ?_); omega; conv => whnf)
                  | ((with_reducible refine AltK.l ?_); (conv => whnf); (first | (refine CallK.mk _ (h1) ?_) | (refine CallK.mk _ (h2) ?_)); conv => whnf)
                  | (exfalso; first | omega | contradiction))
                rfl
              · dsimp only at huq
                conv => whnf
                repeat' (first
                  | ((refine PickE.map c hcs (by omega) ?_); conv => whnf)
                  | ((refine PickE.map (j - 1) hq (by omega) ?_); conv => whnf)
                  | ((refine PickE.map j hx (by omega) ?_); conv => whnf)
                  | ((with_reducible refine Split.of_true ?_); conv => whnf)
                  | ((with_reducible refine Split.of_false ?_); conv => whnf)
                  | ((with_reducible refine Split.neg ?_))
                  | ((with_reducible refine Split.is_true ?_ ?_); decide; conv => whnf)
                  | ((with_reducible refine Split.is_false ?_ ?_); decide; conv => whnf)
                  | ((with_reducible refine Split.nez (fun _ => ?_) (fun _ => ?_)) <;> conv => whnf)
                  | ((with_reducible refine Split.eqz (fun _ => ?_) (fun _ => ?_)) <;> conv => whnf)
                  | ((with_reducible refine Split.and ?_))
                  | ((with_reducible refine Split.or ?_))
                  | ((with_reducible refine Split.streq (fun _ => ?_) (fun _ => ?_)) <;> conv => whnf)
                  | ((with_reducible refine Split.dec (fun _ => ?_) (fun _ => ?_)) <;> conv => whnf)
                  | ((with_reducible refine Split.mk (fun _ => ?_) (fun _ => ?_)) <;> conv => whnf)
                  | ((with_reducible refine NilK.mk (fun _ => ?_) ?_) <;> conv => whnf)
                  | ((with_reducible refine AltK.l ?_); (conv => whnf); (with_reducible refine Need.mk ?_ ?_); (first | omega | (refine ⟨?_, ?_⟩ <;> simp <;> omega) | (simp; omega)); conv => whnf)
                  | ((with_reducible refine Need.mk ?_ ?_); (first | omega | rfl | decide | (refine ⟨?_, ?_⟩ <;> simp <;> omega) | (simp; omega)); conv => whnf)
                  | ((with_reducible refine Wr.quo ?_ ?_ ?_ ?_); omega; omega; omega; conv => whnf)
                  | ((with_reducible refine Wr.inr ?_ ?_); (first | omega | (simp; omega)); conv => whnf)
                  | ((with_reducible refine Wr.inu ?_ ?_); omega; conv => whnf)
                  | ((with_reducible refine AltK.l ?_); (conv => whnf); (first | (refine CallK.mk _ (h1) ?_) | (refine CallK.mk _ (h2) ?_)); conv => whnf)
                  | (exfalso; first | omega | contradiction))
                all_goals rfl
            · have hb1 : dnF o s = false := by
                cases h : dnF o s with
                | false => rfl
                | true => exact absurd (.inl h) hbad
              have hb2 : gUp (gPrev g j) s.n = false := by
                cases h : gUp (gPrev g j) s.n with
                | false => rfl
                | true => exact absurd (.inr h) hbad
              rw [if_neg (by rw [hb1]; decide), if_neg (by rw [hb2]; decide), gBad] at hgr
              have hsn : snB o (g.take j) s = false := by
                rw [snB, hb1, Bool.false_or, List.any_eq_false]
                intro x hxg he
                cases j with
                | zero => simp at hxg
                | succ j =>
                  obtain ⟨q, hq⟩ := some_of_lt (l := g) (i := j) (by omega)
                  have h5 := hup x hxg q.1 (by simp [gPrev, hq])
                  simp only [gPrev, hq, Option.map_some, gUp, decide_eq_false_iff_not] at hb2
                  simp at he; omega
              have h0 : j = 0 ∨ ∃ q, g[j - 1]? = some q ∧ ¬ s.n ≤ q.1 ∧ 0 < j := by
                cases j with
                | zero => exact .inl rfl
                | succ j =>
                  obtain ⟨q, hq⟩ := some_of_lt (l := g) (i := j) (by omega)
                  refine .inr ⟨q, hq, ?_, by omega⟩
                  simp only [gPrev, hq, Option.map_some, gUp, decide_eq_false_iff_not] at hb2
                  exact hb2
              have hpn : gPrev g (j + 1) = some s.n := by simp [gPrev, hx]
              have hmp4 : (l.map fun s => D.bool (snB o (g.take j) s)).set c (.bool true) = l.map fun s => D.bool (snB o (g.take (j + 1)) s) := by
                refine set_map hcs (by rw [snB, take_snoc hx]; simp) (noTwo_nodup hu) fun y hy hyz => ?_
                have : (s.n == y.n) = false := by
                  simp only [beq_eq_false_iff_ne]
                  exact fun e => hyz (noTwo_eq hu y hy s hsl e.symm)
                rw [snB, take_snoc hx, List.any_append]
                simp [this, snB]
              have hup2 : ∀ x ∈ g.take (j + 1), ∀ q, gPrev g (j + 1) = some q → x.1 ≤ q := by
                intro x hxg q hq
                rw [hpn] at hq; cases hq
                rw [take_snoc hx] at hxg
                rcases List.mem_append.1 hxg with hxg | hxg
                · rcases h0 with h0 | ⟨q, hq, hnq, h0⟩
                  · subst h0; simp at hxg
                  · have := hup x hxg q.1 (by
                      cases j with
                      | zero => omega
                      | succ j => simp only [Nat.add_sub_cancel] at hq; simp [gPrev, hq])
                    omega
                · rw [List.mem_singleton.1 hxg]
                  exact Int.le_refl _
              have hsee : (l.map fun s => D.bool (snB o (g.take j) s))[c]? = some (.bool false) := by rw [List.getElem?_map, hcs, Option.map_some, hsn]
              rcases h0 with h0 | ⟨⟨q1, q2⟩, hq, huq, h0⟩
              all_goals
                try dsimp only at huq
                conv => whnf
                repeat' (first
                  | ((refine pick_as hsee (by omega) ?_); conv => whnf)
                  | ((refine PickE.map e hes (by omega) ?_); conv => whnf)
                  | ((refine PickE.map c hcs (by omega) ?_); conv => whnf)
                  | ((refine PickE.map (j - 1) hq (by omega) ?_); conv => whnf)
                  | ((refine PickE.map j hx (by omega) ?_); conv => whnf)
                  | ((with_reducible refine Split.of_true ?_); conv => whnf)
                  | ((with_reducible refine Split.of_false ?_); conv => whnf)
                  | ((with_reducible refine Split.neg ?_))
                  | ((with_reducible refine Split.is_true ?_ ?_); decide; conv => whnf)
                  | ((with_reducible refine Split.is_false ?_ ?_); decide; conv => whnf)
                  | ((with_reducible refine Split.nez (fun _ => ?_) (fun _ => ?_)) <;> conv => whnf)
                  | ((with_reducible refine Split.eqz (fun _ => ?_) (fun _ => ?_)) <;> conv => whnf)
                  | ((with_reducible refine Split.and ?_))
                  | ((with_reducible refine Split.or ?_))
                  | ((with_reducible refine Split.streq (fun _ => ?_) (fun _ => ?_)) <;> conv => whnf)
                  | ((with_reducible refine Split.dec (fun _ => ?_) (fun _ => ?_)) <;> conv => whnf)
                  | ((with_reducible refine Split.mk (fun _ => ?_) (fun _ => ?_)) <;> conv => whnf)
                  | ((with_reducible refine NilK.mk (fun _ => ?_) ?_) <;> conv => whnf)
                  | ((with_reducible refine AltK.l ?_); (conv => whnf); (with_reducible refine Need.mk ?_ ?_); (first | omega | (refine ⟨?_, ?_⟩ <;> simp <;> omega) | (simp; omega)); conv => whnf)
                  | ((with_reducible refine Need.mk ?_ ?_); (first | omega | rfl | decide | (refine ⟨?_, ?_⟩ <;> simp <;> omega) | (simp; omega)); conv => whnf)
                  | ((with_reducible refine Wr.quo ?_ ?_ ?_ ?_); omega; omega; omega; conv => whnf)
                  | ((with_reducible refine Wr.inr ?_ ?_); (first | omega | (simp; omega)); conv => whnf)
                  | ((with_reducible refine Wr.inu ?_ ?_); omega; conv => whnf)
                  | ((with_reducible refine AltK.l ?_); (conv => whnf); (first | (refine CallK.mk _ (h1) ?_) | (refine CallK.mk _ (h2) ?_) | (refine CallK.mk _ (h4) ?_)); conv => whnf)
                  | (exfalso; first | omega | contradiction))
                all_goals first
                  | (rw [if_neg (by simp; omega)] at hgr; exact Again.au (j + 1) ⟨by omega, by rw [hpn]; exact hgr, hup2⟩ (by omega) (by refine ⟨?_, ?_, rfl⟩ <;> (repeat' (first | exact True.intro | exact rfl | refine ⟨?_, ?_⟩ | (intro h; cases h; done) | (intro h; exact h) | exact map_snoc | (refine own_congr ?_; simp; done) | (refine int_congr ?_; (first | omega | (simp; omega))) | (simp; done) | exact hmp4 | ((first | refine own_congr ?_ | refine int_congr ?_ | skip); simp [D.cells]; done) | ((first | refine own_congr ?_ | refine int_congr ?_); simp [D.cells]; omega) | (show @Eq (List Go.Vm.D) _ []; simp [D.cells]; done) | (simp [D.cells, D.cells]; done)))))
                  | (rw [if_pos (by simp; omega)] at hgr; rw [hgr]; rfl)
      · rw [List.drop_eq_nil_of_le (by omega), gRun] at hgr
        rw [hgr]
        conv => whnf
        repeat' (first
          | ((with_reducible refine Split.of_true ?_); conv => whnf)
          | ((with_reducible refine Split.of_false ?_); conv => whnf)
          | ((with_reducible refine Split.neg ?_))
          | ((with_reducible refine Split.is_true ?_ ?_); decide; conv => whnf)
          | ((with_reducible refine Split.is_false ?_ ?_); decide; conv => whnf)
          | ((with_reducible refine Split.nez (fun _ => ?_) (fun _ => ?_)) <;> conv => whnf)
          | ((with_reducible refine Split.eqz (fun _ => ?_) (fun _ => ?_)) <;> conv => whnf)
          | ((with_reducible refine Split.and ?_))
          | ((with_reducible refine Split.or ?_))
          | ((with_reducible refine Split.streq (fun _ => ?_) (fun _ => ?_)) <;> conv => whnf)
          | ((with_reducible refine Split.dec (fun _ => ?_) (fun _ => ?_)) <;> conv => whnf)
          | ((with_reducible refine Split.mk (fun _ => ?_) (fun _ => ?_)) <;> conv => whnf)
          | ((with_reducible refine NilK.mk (fun _ => ?_) ?_) <;> conv => whnf)
          | ((with_reducible refine AltK.l ?_); (conv => whnf); (with_reducible refine Need.mk ?_ ?_); (first | omega | (refine ⟨?_, ?_⟩ <;> simp <;> omega) | (simp; omega)); conv => whnf)
          | ((with_reducible refine Need.mk ?_ ?_); (first | omega | rfl | decide | (refine ⟨?_, ?_⟩ <;> simp <;> omega) | (simp; omega)); conv => whnf)
          | ((with_reducible refine Wr.quo ?_ ?_ ?_ ?_); omega; omega; omega; conv => whnf)
          | ((with_reducible refine Wr.inr ?_ ?_); (first | omega | (simp; omega)); conv => whnf)
          | ((with_reducible refine Wr.inu ?_ ?_); omega; conv => whnf)
          | (exfalso; first | omega | contradiction))
        rfl
  · rw [decide_eq_false c0, Bool.false_and]
    refine ev_of_awp tysOk mixed (fn := Tryz.f101) Tryz.func101 rfl rfl rfl ?_
    conv => whnf
    repeat' (first
      | ((with_reducible refine Split.of_true ?_); conv => whnf)
      | ((with_reducible refine Split.of_false ?_); conv => whnf)
      | ((with_reducible refine Split.neg ?_))
      | ((with_reducible refine Split.is_true ?_ ?_); decide; conv => whnf)
      | ((with_reducible refine Split.is_false ?_ ?_); decide; conv => whnf)
      | ((with_reducible refine Split.nez (fun _ => ?_) (fun _ => ?_)) <;> conv => whnf)
      | ((with_reducible refine Split.eqz (fun _ => ?_) (fun _ => ?_)) <;> conv => whnf)
      | ((with_reducible refine Split.and ?_))
      | ((with_reducible refine Split.or ?_))
      | ((with_reducible refine Split.streq (fun _ => ?_) (fun _ => ?_)) <;> conv => whnf)
      | ((with_reducible refine Split.dec (fun _ => ?_) (fun _ => ?_)) <;> conv => whnf)
      | ((with_reducible refine Split.mk (fun _ => ?_) (fun _ => ?_)) <;> conv => whnf)
      | ((with_reducible refine NilK.mk (fun _ => ?_) ?_) <;> conv => whnf)
      | ((with_reducible refine AltK.l ?_); (conv => whnf); (with_reducible refine Need.mk ?_ ?_); (first | omega | (refine ⟨?_, ?_⟩ <;> simp <;> omega) | (simp; omega)); conv => whnf)
      | ((with_reducible refine Need.mk ?_ ?_); (first | omega | rfl | decide | (refine ⟨?_, ?_⟩ <;> simp <;> omega) | (simp; omega)); conv => whnf)
      | ((with_reducible refine Wr.quo ?_ ?_ ?_ ?_); omega; omega; omega; conv => whnf)
      | ((with_reducible refine Wr.inr ?_ ?_); (first | omega | (simp; omega)); conv => whnf)
      | ((with_reducible refine Wr.inu ?_ ?_); omega; conv => whnf)
      | (exfalso; first | omega | contradiction))
    all_goals rfl
theorem ev_CheckThinR (l : List Sg) (r : Int) (k : List Int) (g : List (Int × Int)) (hk : k.length ≤ 1000) (hg : g.length ≤ 1000) : Ev Tryz.prog 41 [.sl 5 (l.map sgD), iD r, thD k g] (iD (ctErr l r k g)) := by
  have h1 := ev_CheckSR l
  have h2 := ev_Within r 0 2000000
  unfold ctErr
  by_cases c0 : chkErr sgB Sg.n l = 0
  · rw [if_neg (by simpa using c0)]
    rw [c0] at h1
    obtain ⟨hl5, hall, hu⟩ := chk_zero c0
    by_cases r0 : radB r = 0
    · rw [if_neg (by simpa using r0)]
      rw [rad_in r0] at h2
      have h3 := ev_RightR l r k g hu hl5 (fun s hs => sg_place (hall s hs)) (rad_bd r0) hk hg
      cases hb : rightB l r k g with
      | true =>
        rw [hb] at h3
        refine ev_of_awp tysOk mixed (fn := Tryz.f41) Tryz.func41 rfl rfl rfl ?_
        conv => whnf
        repeat' (first
          | ((with_reducible refine Split.of_true ?_); conv => whnf)
          | ((with_reducible refine Split.of_false ?_); conv => whnf)
          | ((with_reducible refine Split.neg ?_))
          | ((with_reducible refine Split.is_true ?_ ?_); decide; conv => whnf)
          | ((with_reducible refine Split.is_false ?_ ?_); decide; conv => whnf)
          | ((with_reducible refine Split.nez (fun _ => ?_) (fun _ => ?_)) <;> conv => whnf)
          | ((with_reducible refine Split.eqz (fun _ => ?_) (fun _ => ?_)) <;> conv => whnf)
          | ((with_reducible refine Split.and ?_))
          | ((with_reducible refine Split.or ?_))
          | ((with_reducible refine Split.streq (fun _ => ?_) (fun _ => ?_)) <;> conv => whnf)
          | ((with_reducible refine Split.dec (fun _ => ?_) (fun _ => ?_)) <;> conv => whnf)
          | ((with_reducible refine Split.mk (fun _ => ?_) (fun _ => ?_)) <;> conv => whnf)
          | ((with_reducible refine NilK.mk (fun _ => ?_) ?_) <;> conv => whnf)
          | ((with_reducible refine AltK.l ?_); (conv => whnf); (with_reducible refine Need.mk ?_ ?_); (first | omega | (refine ⟨?_, ?_⟩ <;> simp <;> omega) | (simp; omega)); conv => whnf)
          | ((with_reducible refine Need.mk ?_ ?_); (first | omega | rfl | decide | (refine ⟨?_, ?_⟩ <;> simp <;> omega) | (simp; omega)); conv => whnf)
          | ((with_reducible refine Wr.quo ?_ ?_ ?_ ?_); omega; omega; omega; conv => whnf)
          | ((with_reducible refine Wr.inr ?_ ?_); (first | omega | (simp; omega)); conv => whnf)
          | ((with_reducible refine Wr.inu ?_ ?_); omega; conv => whnf)
          | ((with_reducible refine AltK.l ?_); (conv => whnf); (first | (refine CallK.mk _ (h1) ?_) | (refine CallK.mk _ (h2) ?_) | (refine CallK.mk _ (h3) ?_)); conv => whnf)
          | (exfalso; first | omega | contradiction))
        rfl
      | false =>
        rw [hb] at h3
        refine ev_of_awp tysOk mixed (fn := Tryz.f41) Tryz.func41 rfl rfl rfl ?_
        conv => whnf
        repeat' (first
          | ((with_reducible refine Split.of_true ?_); conv => whnf)
          | ((with_reducible refine Split.of_false ?_); conv => whnf)
          | ((with_reducible refine Split.neg ?_))
          | ((with_reducible refine Split.is_true ?_ ?_); decide; conv => whnf)
          | ((with_reducible refine Split.is_false ?_ ?_); decide; conv => whnf)
          | ((with_reducible refine Split.nez (fun _ => ?_) (fun _ => ?_)) <;> conv => whnf)
          | ((with_reducible refine Split.eqz (fun _ => ?_) (fun _ => ?_)) <;> conv => whnf)
          | ((with_reducible refine Split.and ?_))
          | ((with_reducible refine Split.or ?_))
          | ((with_reducible refine Split.streq (fun _ => ?_) (fun _ => ?_)) <;> conv => whnf)
          | ((with_reducible refine Split.dec (fun _ => ?_) (fun _ => ?_)) <;> conv => whnf)
          | ((with_reducible refine Split.mk (fun _ => ?_) (fun _ => ?_)) <;> conv => whnf)
          | ((with_reducible refine NilK.mk (fun _ => ?_) ?_) <;> conv => whnf)
          | ((with_reducible refine AltK.l ?_); (conv => whnf); (with_reducible refine Need.mk ?_ ?_); (first | omega | (refine ⟨?_, ?_⟩ <;> simp <;> omega) | (simp; omega)); conv => whnf)
          | ((with_reducible refine Need.mk ?_ ?_); (first | omega | rfl | decide | (refine ⟨?_, ?_⟩ <;> simp <;> omega) | (simp; omega)); conv => whnf)
          | ((with_reducible refine Wr.quo ?_ ?_ ?_ ?_); omega; omega; omega; conv => whnf)
          | ((with_reducible refine Wr.inr ?_ ?_); (first | omega | (simp; omega)); conv => whnf)
          | ((with_reducible refine Wr.inu ?_ ?_); omega; conv => whnf)
          | ((with_reducible refine AltK.l ?_); (conv => whnf); (first | (refine CallK.mk _ (h1) ?_) | (refine CallK.mk _ (h2) ?_) | (refine CallK.mk _ (h3) ?_)); conv => whnf)
          | (exfalso; first | omega | contradiction))
        rfl
    · obtain ⟨r1, r2⟩ := rad_out r0
      rw [if_pos r0, r2]
      rw [r1] at h2
      refine ev_of_awp tysOk mixed (fn := Tryz.f41) Tryz.func41 rfl rfl rfl ?_
      conv => whnf
      repeat' (first
        | ((with_reducible refine Split.of_true ?_); conv => whnf)
        | ((with_reducible refine Split.of_false ?_); conv => whnf)
        | ((with_reducible refine Split.neg ?_))
        | ((with_reducible refine Split.is_true ?_ ?_); decide; conv => whnf)
        | ((with_reducible refine Split.is_false ?_ ?_); decide; conv => whnf)
        | ((with_reducible refine Split.nez (fun _ => ?_) (fun _ => ?_)) <;> conv => whnf)
        | ((with_reducible refine Split.eqz (fun _ => ?_) (fun _ => ?_)) <;> conv => whnf)
        | ((with_reducible refine Split.and ?_))
        | ((with_reducible refine Split.or ?_))
        | ((with_reducible refine Split.streq (fun _ => ?_) (fun _ => ?_)) <;> conv => whnf)
        | ((with_reducible refine Split.dec (fun _ => ?_) (fun _ => ?_)) <;> conv => whnf)
        | ((with_reducible refine Split.mk (fun _ => ?_) (fun _ => ?_)) <;> conv => whnf)
        | ((with_reducible refine NilK.mk (fun _ => ?_) ?_) <;> conv => whnf)
        | ((with_reducible refine AltK.l ?_); (conv => whnf); (with_reducible refine Need.mk ?_ ?_); (first | omega | (refine ⟨?_, ?_⟩ <;> simp <;> omega) | (simp; omega)); conv => whnf)
        | ((with_reducible refine Need.mk ?_ ?_); (first | omega | rfl | decide | (refine ⟨?_, ?_⟩ <;> simp <;> omega) | (simp; omega)); conv => whnf)
        | ((with_reducible refine Wr.quo ?_ ?_ ?_ ?_); omega; omega; omega; conv => whnf)
        | ((with_reducible refine Wr.inr ?_ ?_); (first | omega | (simp; omega)); conv => whnf)
        | ((with_reducible refine Wr.inu ?_ ?_); omega; conv => whnf)
        | ((with_reducible refine AltK.l ?_); (conv => whnf); (first | (refine CallK.mk _ (h1) ?_) | (refine CallK.mk _ (h2) ?_)); conv => whnf)
        | (exfalso; first | omega | contradiction))
      rfl
  · rw [if_pos c0]
    refine ev_of_awp tysOk mixed (fn := Tryz.f41) Tryz.func41 rfl rfl rfl ?_
    conv => whnf
    repeat' (first
      | ((with_reducible refine Split.of_true ?_); conv => whnf)
      | ((with_reducible refine Split.of_false ?_); conv => whnf)
      | ((with_reducible refine Split.neg ?_))
      | ((with_reducible refine Split.is_true ?_ ?_); decide; conv => whnf)
      | ((with_reducible refine Split.is_false ?_ ?_); decide; conv => whnf)
      | ((with_reducible refine Split.nez (fun _ => ?_) (fun _ => ?_)) <;> conv => whnf)
      | ((with_reducible refine Split.eqz (fun _ => ?_) (fun _ => ?_)) <;> conv => whnf)
      | ((with_reducible refine Split.and ?_))
      | ((with_reducible refine Split.or ?_))
      | ((with_reducible refine Split.streq (fun _ => ?_) (fun _ => ?_)) <;> conv => whnf)
      | ((with_reducible refine Split.dec (fun _ => ?_) (fun _ => ?_)) <;> conv => whnf)
      | ((with_reducible refine Split.mk (fun _ => ?_) (fun _ => ?_)) <;> conv => whnf)
      | ((with_reducible refine NilK.mk (fun _ => ?_) ?_) <;> conv => whnf)
      | ((with_reducible refine AltK.l ?_); (conv => whnf); (with_reducible refine Need.mk ?_ ?_); (first | omega | (refine ⟨?_, ?_⟩ <;> simp <;> omega) | (simp; omega)); conv => whnf)
      | ((with_reducible refine Need.mk ?_ ?_); (first | omega | rfl | decide | (refine ⟨?_, ?_⟩ <;> simp <;> omega) | (simp; omega)); conv => whnf)
      | ((with_reducible refine Wr.quo ?_ ?_ ?_ ?_); omega; omega; omega; conv => whnf)
      | ((with_reducible refine Wr.inr ?_ ?_); (first | omega | (simp; omega)); conv => whnf)
      | ((with_reducible refine Wr.inu ?_ ?_); omega; conv => whnf)
      | ((with_reducible refine AltK.l ?_); (conv => whnf); (first | (refine CallK.mk _ (h1) ?_)); conv => whnf)
      | (exfalso; first | omega | contradiction))
    all_goals simp_all [retOf, iD]
theorem ev_SoundingChecks (l : List Sg) (r : Int) (k : List Int) (gs : List (Int × Int)) : Ev Tryz.prog 8 [.sl 5 (l.map sgD), iD r, thD k gs] (.bool true) := by
  have hlk : (k.map iD).length = k.length := List.length_map _
  have hlg : (gs.map gdD).length = gs.length := List.length_map _
  have h0 := ev_long l
  have h7 := ev_awake3
  generalize longB l.length = b at *
  cases b with
  | true =>
    refine ev_of_awp tysOk mixed (fn := Tryz.f8) Tryz.func8 rfl rfl rfl ?_
    conv => whnf
    repeat' (first
      | ((with_reducible refine Split.of_true ?_); conv => whnf)
      | ((with_reducible refine Split.of_false ?_); conv => whnf)
      | ((with_reducible refine Split.neg ?_))
      | ((with_reducible refine Split.is_true ?_ ?_); decide; conv => whnf)
      | ((with_reducible refine Split.is_false ?_ ?_); decide; conv => whnf)
      | ((with_reducible refine Split.nez (fun _ => ?_) (fun _ => ?_)) <;> conv => whnf)
      | ((with_reducible refine Split.eqz (fun _ => ?_) (fun _ => ?_)) <;> conv => whnf)
      | ((with_reducible refine Split.and ?_))
      | ((with_reducible refine Split.or ?_))
      | ((with_reducible refine Split.streq (fun _ => ?_) (fun _ => ?_)) <;> conv => whnf)
      | ((with_reducible refine Split.dec (fun _ => ?_) (fun _ => ?_)) <;> conv => whnf)
      | ((with_reducible refine Split.mk (fun _ => ?_) (fun _ => ?_)) <;> conv => whnf)
      | ((with_reducible refine NilK.mk (fun _ => ?_) ?_) <;> conv => whnf)
      | ((with_reducible refine AltK.l ?_); (conv => whnf); (with_reducible refine Need.mk ?_ ?_); (first | omega | (refine ⟨?_, ?_⟩ <;> simp <;> omega) | (simp; omega)); conv => whnf)
      | ((with_reducible refine Need.mk ?_ ?_); (first | omega | rfl | decide | (refine ⟨?_, ?_⟩ <;> simp <;> omega) | (simp; omega)); conv => whnf)
      | ((with_reducible refine Wr.quo ?_ ?_ ?_ ?_); omega; omega; omega; conv => whnf)
      | ((with_reducible refine Wr.inr ?_ ?_); (first | omega | (simp; omega)); conv => whnf)
      | ((with_reducible refine Wr.inu ?_ ?_); omega; conv => whnf)
      | ((with_reducible refine AltK.l ?_); (conv => whnf); (first | (refine CallK.mk _ (h0) ?_) | (refine CallK.mk _ (h7) ?_)); conv => whnf)
      | (exfalso; first | omega | contradiction))
    rfl
  | false =>
    by_cases hk : k.length ≤ 40 ∧ gs.length ≤ 40
    · have h1 := ev_CheckThin l r k gs (by omega) (by omega)
      have h2 := ev_CheckThinR l r k gs (by omega) (by omega)
      generalize ctErr l r k gs = q at *
      refine ev_of_awp tysOk mixed (fn := Tryz.f8) Tryz.func8 rfl rfl rfl ?_
      conv => whnf
      repeat' (first
        | ((with_reducible refine Split.of_true ?_); conv => whnf)
        | ((with_reducible refine Split.of_false ?_); conv => whnf)
        | ((with_reducible refine Split.neg ?_))
        | ((with_reducible refine Split.is_true ?_ ?_); decide; conv => whnf)
        | ((with_reducible refine Split.is_false ?_ ?_); decide; conv => whnf)
        | ((with_reducible refine Split.nez (fun _ => ?_) (fun _ => ?_)) <;> conv => whnf)
        | ((with_reducible refine Split.eqz (fun _ => ?_) (fun _ => ?_)) <;> conv => whnf)
        | ((with_reducible refine Split.and ?_))
        | ((with_reducible refine Split.or ?_))
        | ((with_reducible refine Split.streq (fun _ => ?_) (fun _ => ?_)) <;> conv => whnf)
        | ((with_reducible refine Split.dec (fun _ => ?_) (fun _ => ?_)) <;> conv => whnf)
        | ((with_reducible refine Split.mk (fun _ => ?_) (fun _ => ?_)) <;> conv => whnf)
        | ((with_reducible refine NilK.mk (fun _ => ?_) ?_) <;> conv => whnf)
        | ((with_reducible refine AltK.l ?_); (conv => whnf); (with_reducible refine Need.mk ?_ ?_); (first | omega | (refine ⟨?_, ?_⟩ <;> simp <;> omega) | (simp; omega)); conv => whnf)
        | ((with_reducible refine Need.mk ?_ ?_); (first | omega | rfl | decide | (refine ⟨?_, ?_⟩ <;> simp <;> omega) | (simp; omega)); conv => whnf)
        | ((with_reducible refine Wr.quo ?_ ?_ ?_ ?_); omega; omega; omega; conv => whnf)
        | ((with_reducible refine Wr.inr ?_ ?_); (first | omega | (simp; omega)); conv => whnf)
        | ((with_reducible refine Wr.inu ?_ ?_); omega; conv => whnf)
        | ((with_reducible refine AltK.l ?_); (conv => whnf); (first | (refine CallK.mk _ (h0) ?_) | (refine CallK.mk _ (h7) ?_) | (refine CallK.mk _ (h1) ?_) | (refine CallK.mk _ (h2) ?_)); conv => whnf)
        | (exfalso; first | omega | contradiction))
      all_goals rfl
    · refine ev_of_awp tysOk mixed (fn := Tryz.f8) Tryz.func8 rfl rfl rfl ?_
      conv => whnf
      repeat' (first
        | ((with_reducible refine Split.of_true ?_); conv => whnf)
        | ((with_reducible refine Split.of_false ?_); conv => whnf)
        | ((with_reducible refine Split.neg ?_))
        | ((with_reducible refine Split.is_true ?_ ?_); decide; conv => whnf)
        | ((with_reducible refine Split.is_false ?_ ?_); decide; conv => whnf)
        | ((with_reducible refine Split.nez (fun _ => ?_) (fun _ => ?_)) <;> conv => whnf)
        | ((with_reducible refine Split.eqz (fun _ => ?_) (fun _ => ?_)) <;> conv => whnf)
        | ((with_reducible refine Split.and ?_))
        | ((with_reducible refine Split.or ?_))
        | ((with_reducible refine Split.streq (fun _ => ?_) (fun _ => ?_)) <;> conv => whnf)
        | ((with_reducible refine Split.dec (fun _ => ?_) (fun _ => ?_)) <;> conv => whnf)
        | ((with_reducible refine Split.mk (fun _ => ?_) (fun _ => ?_)) <;> conv => whnf)
        | ((with_reducible refine NilK.mk (fun _ => ?_) ?_) <;> conv => whnf)
        | ((with_reducible refine AltK.l ?_); (conv => whnf); (with_reducible refine Need.mk ?_ ?_); (first | omega | (refine ⟨?_, ?_⟩ <;> simp <;> omega) | (simp; omega)); conv => whnf)
        | ((with_reducible refine Need.mk ?_ ?_); (first | omega | rfl | decide | (refine ⟨?_, ?_⟩ <;> simp <;> omega) | (simp; omega)); conv => whnf)
        | ((with_reducible refine Wr.quo ?_ ?_ ?_ ?_); omega; omega; omega; conv => whnf)
        | ((with_reducible refine Wr.inr ?_ ?_); (first | omega | (simp; omega)); conv => whnf)
        | ((with_reducible refine Wr.inu ?_ ?_); omega; conv => whnf)
        | ((with_reducible refine AltK.l ?_); (conv => whnf); (first | (refine CallK.mk _ (h0) ?_) | (refine CallK.mk _ (h7) ?_)); conv => whnf)
        | (exfalso; first | omega | contradiction))
      all_goals rfl
end Go.Proofs.Tryz
end
