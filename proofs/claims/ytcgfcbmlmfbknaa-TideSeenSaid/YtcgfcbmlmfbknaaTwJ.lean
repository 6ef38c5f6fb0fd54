import Derived.Test.YtcgfcbmlmfbknaaTwI
import Derived.Test.YtcgfcbmlmfbknaaVmY
namespace Go.Proofs.Try
open Go Go.Vm
set_option maxRecDepth 20000
set_option maxHeartbeats 2000000
def midM (a b : Mk) (k p : Int) : Mk := ⟨a.m + k * (b.m - a.m) / 6, a.l + p * (b.l - a.l) / 12⟩
def midL : List (Int × Int) := [(1, 1), (2, 3), (3, 6), (4, 9), (5, 11)]
def addTw (acc : List Mk) (n : Mk) : List Mk := match acc.getLast? with
  | some z => if z.m < n.m then acc ++ [n] else acc
  | none => acc
def mids (acc : List Mk) (a b : Mk) (k : Nat) : List Mk := (midL.take k).foldl (fun acc x => addTw acc (midM a b x.1 x.2)) acc
def twGo : List Mk → Mk → List Mk → List Mk
  | acc, _, [] => acc
  | acc, a, b :: r => twGo (mids acc a b 5 ++ [b]) b r
def twL : List Mk → List Mk
  | [] => []
  | a :: r => twGo [a] a r
theorem addTw_snoc (o : List Mk) (z n : Mk) : addTw (o ++ [z]) n = if z.m < n.m then o ++ [z] ++ [n] else o ++ [z] := by simp [addTw]
theorem mids_succ {acc : List Mk} {a b : Mk} {k : Nat} {x : Int × Int} (h : midL[k]? = some x) : mids acc a b (k + 1) = addTw (mids acc a b k) (midM a b x.1 x.2) := by
  unfold mids
  rw [take_snoc h, List.foldl_append]
  rfl
theorem midL_of {k : Nat} {x : Int × Int} (h : midL[k]? = some x) : (k = 0 ∧ x = (1, 1)) ∨ (k = 1 ∧ x = (2, 3)) ∨ (k = 2 ∧ x = (3, 6)) ∨ (k = 3 ∧ x = (4, 9)) ∨ (k = 4 ∧ x = (5, 11)) := by
  have := lt_of_some h
  have : k = 0 ∨ k = 1 ∨ k = 2 ∨ k = 3 ∨ k = 4 := by simp [midL] at this; omega
  rcases this with rfl | rfl | rfl | rfl | rfl <;> simp [midL] at h <;> simp [h]
theorem midM_in {a b : Mk} {k : Nat} {x : Int × Int} (h : midL[k]? = some x) (hab : a.m < b.m) : a.m ≤ (midM a b x.1 x.2).m ∧ (midM a b x.1 x.2).m < b.m ∧ min a.l b.l ≤ (midM a b x.1 x.2).l ∧ (midM a b x.1 x.2).l ≤ max a.l b.l := by
  rcases midL_of h with ⟨-, rfl⟩ | ⟨-, rfl⟩ | ⟨-, rfl⟩ | ⟨-, rfl⟩ | ⟨-, rfl⟩ <;> simp only [midM] <;> omega
theorem mids_snoc {a b : Mk} (hab : a.m < b.m) : ∀ (k : Nat) (o : List Mk), ∃ o' z, mids (o ++ [a]) a b k = o' ++ [z] ∧ a.m ≤ z.m ∧ z.m < b.m
  | 0, o => ⟨o, a, rfl, by omega, hab⟩
  | k + 1, o => by
    obtain ⟨o', z, h, h1, h2⟩ := mids_snoc hab k o
    cases hk : midL[k]? with
    | none =>
      refine ⟨o', z, ?_, h1, h2⟩
      rw [← h]
      unfold mids
      have := List.getElem?_eq_none_iff.1 hk
      rw [List.take_of_length_le (by omega), List.take_of_length_le (by omega)]
    | some x =>
      have hin := midM_in hk hab
      rw [mids_succ hk, h, addTw_snoc]
      split
      · exact ⟨_, _, rfl, hin.1, hin.2.1⟩
      · exact ⟨_, _, rfl, h1, h2⟩
theorem mids_len {acc : List Mk} {a b : Mk} : ∀ (k : Nat), (mids acc a b k).length ≤ acc.length + k
  | 0 => by simp [mids]
  | k + 1 => by
    have := mids_len (acc := acc) (a := a) (b := b) k
    cases hk : midL[k]? with
    | none =>
      have hn := List.getElem?_eq_none_iff.1 hk
      unfold mids at this ⊢
      rw [List.take_of_length_le (by omega)] at this ⊢
      omega
    | some x =>
      rw [mids_succ hk, addTw]
      split
      · split <;> simp <;> omega
      · omega
theorem part_of {k : Nat} (h : k < 5) : ∃ p : Int, [D.int .i64 1, D.int .i64 3, D.int .i64 6, D.int .i64 9, D.int .i64 11][k]? = some (.int .i64 p) ∧ midL[k]? = some ((k : Int) + 1, p) ∧ 1 ≤ p ∧ p ≤ 11 := by
  have : k = 0 ∨ k = 1 ∨ k = 2 ∨ k = 3 ∨ k = 4 := by omega
  rcases this with rfl | rfl | rfl | rfl | rfl <;> exact ⟨_, rfl, rfl, by omega, by omega⟩
def TInv (g : Ga) (i : Nat) (acc : List Mk) : Prop := i ≤ g.marks.length ∧ acc.length ≤ 6 * i ∧ (i = 0 → acc = []) ∧
  ∀ j, i = j + 1 → ∃ o a, g.marks[j]? = some a ∧ acc = o ++ [a] ∧ twL g.marks = twGo acc a (g.marks.drop i)
theorem tinv_first {g : Ga} {b : Mk} (hm : g.marks[0]? = some b) : TInv g 1 [b] := by
  have := lt_of_some hm
  refine ⟨by omega, by simp, fun h => by omega, fun j hj => ?_⟩
  obtain rfl : j = 0 := by omega
  refine ⟨[], b, hm, rfl, ?_⟩
  have e := drop_of hm
  rw [List.drop_zero] at e
  rw [e]; rfl
theorem tinv_step {g : Ga} {j : Nat} {o : List Mk} {a b : Mk} (h : TInv g (j + 1) (o ++ [a])) (ha : g.marks[j]? = some a) (hb : g.marks[j + 1]? = some b) : TInv g (j + 2) (mids (o ++ [a]) a b 5 ++ [b]) := by
  have := lt_of_some hb
  obtain ⟨h1, h2, h3, h4⟩ := h
  have hl := mids_len (acc := o ++ [a]) (a := a) (b := b) 5
  refine ⟨by omega, by rw [List.length_append]; simp only [List.length_cons, List.length_nil]; omega, fun h => by omega, fun i hi => ?_⟩
  obtain rfl : i = j + 1 := by omega
  refine ⟨_, b, hb, rfl, ?_⟩
  obtain ⟨o', a', k1, k2, k3⟩ := h4 j rfl
  rw [ha] at k1; cases k1
  rw [k3, drop_of hb, twGo]
def twE (g : Ga) : Int := if gErr g ≠ 0 then gErr g else if 400 < (twL g.marks).length then 8 else 0
def twR (g : Ga) : Ga := if twE g = 0 then { g with marks := twL g.marks } else gzG
theorem tinv_end {g : Ga} {i : Nat} {acc : List Mk} (h : TInv g i acc) (hi : g.marks.length ≤ i) : twL g.marks = acc := by
  obtain ⟨h1, h2, h3, h4⟩ := h
  cases i with
  | zero =>
    rw [h3 rfl]
    have : g.marks = [] := List.eq_nil_of_length_eq_zero (by omega)
    rw [this]; rfl
  | succ j =>
    obtain ⟨o, a, -, -, k⟩ := h4 j rfl
    rw [k, List.drop_eq_nil_of_le hi]; rfl
theorem ev_Twelfths (g : Ga) : Ev Try.prog 27 [gD g] (.tup [gD (twR g), .int .i64 (twE g)]) := by
  have hlen : (g.marks.map mD).length = g.marks.length := List.length_map _
  refine ev_of_awp tysOk mixed (fn := Try.f27) Try.func27 rfl rfl rfl ?_
  conv => whnf
  repeat' (first
    | ((with_reducible refine Split.of_true ?_); conv => whnf)
    | ((with_reducible refine Split.of_false ?_); conv => whnf)
    | ((with_reducible refine Split.neg ?_))
    | ((with_reducible refine Split.is_true ?_ ?_); decide; conv => whnf)
    | ((with_reducible refine Split.is_false ?_ ?_); decide; conv => whnf)
    | ((with_reducible refine Split.nez (fun _ => ?_) (fun _ => ?_)) <;> conv => whnf)
    | ((with_reducible refine Split.eqz (fun _ => ?_) (fun _ => ?_)) <;> conv => whnf)
    | ((with_reducible refine Split.and ?_))
    | ((with_reducible refine Split.or ?_))
    | ((with_reducible refine Split.streq (fun _ => ?_) (fun _ => ?_)) <;> conv => whnf)
    | ((with_reducible refine Split.dec (fun _ => ?_) (fun _ => ?_)) <;> conv => whnf)
    | ((with_reducible refine Split.mk (fun _ => ?_) (fun _ => ?_)) <;> conv => whnf)
    | ((with_reducible refine Need.mk ?_ ?_); (first | omega | rfl | decide | (refine ⟨?_, ?_⟩ <;> simp <;> omega) | (simp; omega)); conv => whnf)
    | ((with_reducible refine Wr.quo ?_ ?_ ?_ ?_); omega; omega; omega; conv => whnf)
    | ((with_reducible refine Wr.inr ?_ ?_); (first | omega | (simp; omega)); conv => whnf)
    | ((with_reducible refine Wr.inu ?_ ?_); omega; conv => whnf)
    | (refine CallK.mk _ (ev_CheckGauge g) ?_; conv => whnf)
    | (exfalso; first | omega | contradiction))
  · have h : gErr g ≠ 0 := by assumption
    simp [retOf, twR, twE, h]; rfl
  have h : gErr g = 0 := by assumption
  have hG := good_of h
  have hl := hG.len
  refine LoopK.o2 (fun x : Nat × List Mk => TInv g x.1 x.2)
    (fun x => [(5, .own 200 2 (x.2.map mD).length), (21, .d (.int .i64 x.1))]) (fun x => [(200, .row 48 2 (x.2.map mD) false)])
    (fun x => g.marks.length - x.1) (0, []) (by simp [TInv]) ⟨by (repeat' (first | exact True.intro | exact rfl | refine ⟨?_, ?_⟩ | (intro h; cases h; done) | (intro h; exact h) | exact map_snoc | (refine own_congr ?_; simp; done) | (refine int_congr ?_; (first | omega | (simp; omega))) | (simp; done))), by (repeat' (first | exact True.intro | exact rfl | refine ⟨?_, ?_⟩ | (intro h; cases h; done) | (intro h; exact h) | exact map_snoc | (refine own_congr ?_; simp; done) | (refine int_congr ?_; (first | omega | (simp; omega))) | (simp; done))), rfl⟩ ?_
  rintro ⟨i, acc⟩ hI
  dsimp only at hI ⊢
  have hi := hI.1
  have hol := hI.2.1
  have hlo : (acc.map mD).length = acc.length := List.length_map _
  have hn : (i : Int) < g.marks.length → ∃ m, g.marks[i]? = some m := fun h => some_of_lt (by omega)
  conv => whnf
  repeat' (first
    | ((with_reducible refine Split.of_true ?_); conv => whnf)
    | ((with_reducible refine Split.of_false ?_); conv => whnf)
    | ((with_reducible refine Split.neg ?_))
    | ((with_reducible refine Split.is_true ?_ ?_); decide; conv => whnf)
    | ((with_reducible refine Split.is_false ?_ ?_); decide; conv => whnf)
    | ((with_reducible refine Split.nez (fun _ => ?_) (fun _ => ?_)) <;> conv => whnf)
    | ((with_reducible refine Split.eqz (fun _ => ?_) (fun _ => ?_)) <;> conv => whnf)
    | ((with_reducible refine Split.and ?_))
    | ((with_reducible refine Split.or ?_))
    | ((with_reducible refine Split.streq (fun _ => ?_) (fun _ => ?_)) <;> conv => whnf)
    | ((with_reducible refine Split.dec (fun _ => ?_) (fun _ => ?_)) <;> conv => whnf)
    | ((with_reducible refine Split.mk (fun _ => ?_) (fun _ => ?_)) <;> conv => whnf)
    | ((with_reducible refine Need.mk ?_ ?_); (first | omega | rfl | decide | (refine ⟨?_, ?_⟩ <;> simp <;> omega) | (simp; omega)); conv => whnf)
    | ((with_reducible refine Wr.quo ?_ ?_ ?_ ?_); omega; omega; omega; conv => whnf)
    | ((with_reducible refine Wr.inr ?_ ?_); (first | omega | (simp; omega)); conv => whnf)
    | ((with_reducible refine Wr.inu ?_ ?_); omega; conv => whnf)
    | (exfalso; first | omega | contradiction))
  · obtain ⟨b, hm⟩ := hn (by omega)
    have hmb := wrongB_false (hG.ok b (List.mem_of_getElem? hm))
    refine PickE.map i hm (by omega) ?_
    cases i with
    | zero =>
      obtain rfl := hI.2.2.1 rfl
      conv => whnf
      repeat' (first
        | ((with_reducible refine Split.of_true ?_); conv => whnf)
        | ((with_reducible refine Split.of_false ?_); conv => whnf)
        | ((with_reducible refine Split.neg ?_))
        | ((with_reducible refine Split.is_true ?_ ?_); decide; conv => whnf)
        | ((with_reducible refine Split.is_false ?_ ?_); decide; conv => whnf)
        | ((with_reducible refine Split.nez (fun _ => ?_) (fun _ => ?_)) <;> conv => whnf)
        | ((with_reducible refine Split.eqz (fun _ => ?_) (fun _ => ?_)) <;> conv => whnf)
        | ((with_reducible refine Split.and ?_))
        | ((with_reducible refine Split.or ?_))
        | ((with_reducible refine Split.streq (fun _ => ?_) (fun _ => ?_)) <;> conv => whnf)
        | ((with_reducible refine Split.dec (fun _ => ?_) (fun _ => ?_)) <;> conv => whnf)
        | ((with_reducible refine Split.mk (fun _ => ?_) (fun _ => ?_)) <;> conv => whnf)
        | ((with_reducible refine Need.mk ?_ ?_); (first | omega | rfl | decide | (refine ⟨?_, ?_⟩ <;> simp <;> omega) | (simp; omega)); conv => whnf)
        | ((with_reducible refine Wr.quo ?_ ?_ ?_ ?_); omega; omega; omega; conv => whnf)
        | ((with_reducible refine Wr.inr ?_ ?_); (first | omega | (simp; omega)); conv => whnf)
        | ((with_reducible refine Wr.inu ?_ ?_); omega; conv => whnf)
        | (exfalso; first | omega | contradiction))
      exact Again.au (0 + 1, [] ++ [b]) (tinv_first hm) (by dsimp only; omega) ⟨by (repeat' (first | exact True.intro | exact rfl | refine ⟨?_, ?_⟩ | (intro h; cases h; done) | (intro h; exact h) | exact map_snoc | (refine own_congr ?_; simp; done) | (refine int_congr ?_; (first | omega | (simp; omega))) | (simp; done))), by (repeat' (first | exact True.intro | exact rfl | refine ⟨?_, ?_⟩ | (intro h; cases h; done) | (intro h; exact h) | exact map_snoc | (refine own_congr ?_; simp; done) | (refine int_congr ?_; (first | omega | (simp; omega))) | (simp; done))), rfl⟩
    | succ j =>
      obtain ⟨o, a, ha, hacc, htw⟩ := hI.2.2.2 j rfl
      subst hacc
      have hma := wrongB_false (hG.ok a (List.mem_of_getElem? ha))
      have hab : a.m < b.m := by
        have := posF_spec (t := b.m) hG.asc
        have := (List.pairwise_iff_getElem.1 hG.asc) j (j + 1) (lt_of_some ha) (lt_of_some hm) (by omega)
        rw [(List.getElem?_eq_some_iff.1 ha).2, (List.getElem?_eq_some_iff.1 hm).2] at this
        exact this
      conv => whnf
      repeat' (first
        | ((refine PickE.map j ha (by omega) ?_); conv => whnf)
        | ((with_reducible refine Split.of_true ?_); conv => whnf)
        | ((with_reducible refine Split.of_false ?_); conv => whnf)
        | ((with_reducible refine Split.neg ?_))
        | ((with_reducible refine Split.is_true ?_ ?_); decide; conv => whnf)
        | ((with_reducible refine Split.is_false ?_ ?_); decide; conv => whnf)
        | ((with_reducible refine Split.nez (fun _ => ?_) (fun _ => ?_)) <;> conv => whnf)
        | ((with_reducible refine Split.eqz (fun _ => ?_) (fun _ => ?_)) <;> conv => whnf)
        | ((with_reducible refine Split.and ?_))
        | ((with_reducible refine Split.or ?_))
        | ((with_reducible refine Split.streq (fun _ => ?_) (fun _ => ?_)) <;> conv => whnf)
        | ((with_reducible refine Split.dec (fun _ => ?_) (fun _ => ?_)) <;> conv => whnf)
        | ((with_reducible refine Split.mk (fun _ => ?_) (fun _ => ?_)) <;> conv => whnf)
        | ((with_reducible refine Need.mk ?_ ?_); (first | omega | rfl | decide | (refine ⟨?_, ?_⟩ <;> simp <;> omega) | (simp; omega)); conv => whnf)
        | ((with_reducible refine Wr.quo ?_ ?_ ?_ ?_); omega; omega; omega; conv => whnf)
        | ((with_reducible refine Wr.inr ?_ ?_); (first | omega | (simp; omega)); conv => whnf)
        | ((with_reducible refine Wr.inu ?_ ?_); omega; conv => whnf)
        | (exfalso; first | omega | contradiction))
      refine LoopK.o2 (fun k : Nat => k ≤ 5)
        (fun k => [(5, .own 201 2 ((mids (o ++ [a]) a b k).map mD).length), (35, .d (.int .i64 k))]) (fun k => [(201, .row 48 2 ((mids (o ++ [a]) a b k).map mD) false)])
        (fun k => 5 - k) 0 (by simp) ⟨by (repeat' (first | exact True.intro | exact rfl | refine ⟨?_, ?_⟩ | (intro h; cases h; done) | (intro h; exact h) | exact map_snoc | (refine own_congr ?_; simp; done) | (refine int_congr ?_; (first | omega | (simp; omega))) | (simp; done))), by (repeat' (first | exact True.intro | exact rfl | refine ⟨?_, ?_⟩ | (intro h; cases h; done) | (intro h; exact h) | exact map_snoc | (refine own_congr ?_; simp; done) | (refine int_congr ?_; (first | omega | (simp; omega))) | (simp; done))), rfl⟩ ?_
      intro k hk
      have hml := mids_len (acc := o ++ [a]) (a := a) (b := b) k
      obtain ⟨o', z, hz, hz1, hz2⟩ := mids_snoc hab k o
      have hzl : ((mids (o ++ [a]) a b k).map mD).length = o'.length + 1 := by rw [hz]; simp
      have hzg : (mids (o ++ [a]) a b k)[o'.length]? = some z := by rw [hz]; simp
      have hpt : (k : Int) < 5 → _ := fun h => part_of (k := k) (by omega)
      conv => whnf
      repeat' (first
        | ((with_reducible refine Split.of_true ?_); conv => whnf)
        | ((with_reducible refine Split.of_false ?_); conv => whnf)
        | ((with_reducible refine Split.neg ?_))
        | ((with_reducible refine Split.is_true ?_ ?_); decide; conv => whnf)
        | ((with_reducible refine Split.is_false ?_ ?_); decide; conv => whnf)
        | ((with_reducible refine Split.nez (fun _ => ?_) (fun _ => ?_)) <;> conv => whnf)
        | ((with_reducible refine Split.eqz (fun _ => ?_) (fun _ => ?_)) <;> conv => whnf)
        | ((with_reducible refine Split.and ?_))
        | ((with_reducible refine Split.or ?_))
        | ((with_reducible refine Split.streq (fun _ => ?_) (fun _ => ?_)) <;> conv => whnf)
        | ((with_reducible refine Split.dec (fun _ => ?_) (fun _ => ?_)) <;> conv => whnf)
        | ((with_reducible refine Split.mk (fun _ => ?_) (fun _ => ?_)) <;> conv => whnf)
        | ((with_reducible refine Need.mk ?_ ?_); (first | omega | rfl | decide | (refine ⟨?_, ?_⟩ <;> simp <;> omega) | (simp; omega)); conv => whnf)
        | ((with_reducible refine Wr.quo ?_ ?_ ?_ ?_); omega; omega; omega; conv => whnf)
        | ((with_reducible refine Wr.inr ?_ ?_); (first | omega | (simp; omega)); conv => whnf)
        | ((with_reducible refine Wr.inu ?_ ?_); omega; conv => whnf)
        | (exfalso; first | omega | contradiction))
      · obtain ⟨p, hp1, hp2, hp3⟩ := hpt (by omega)
        have e1 := mul_bd (x := (k : Int) + 1) (y := b.m - a.m) (X := 5) (Y := 1000000) (by omega) (by omega)
        have e2 := mul_bd (x := p) (y := b.l - a.l) (X := 11) (Y := 40000) (by omega) (by omega)
        have d1 := ev_down (((k : Int) + 1) * (b.m - a.m)) 6 (by omega) (by omega)
        have d2 := ev_down (p * (b.l - a.l)) 12 (by omega) (by omega)
        refine PickE.mk _ hp1 ?_
        conv => whnf
        repeat' (first
          | ((with_reducible refine Split.of_true ?_); conv => whnf)
          | ((with_reducible refine Split.of_false ?_); conv => whnf)
          | ((with_reducible refine Split.neg ?_))
          | ((with_reducible refine Split.is_true ?_ ?_); decide; conv => whnf)
          | ((with_reducible refine Split.is_false ?_ ?_); decide; conv => whnf)
          | ((with_reducible refine Split.nez (fun _ => ?_) (fun _ => ?_)) <;> conv => whnf)
          | ((with_reducible refine Split.eqz (fun _ => ?_) (fun _ => ?_)) <;> conv => whnf)
          | ((with_reducible refine Split.and ?_))
          | ((with_reducible refine Split.or ?_))
          | ((with_reducible refine Split.streq (fun _ => ?_) (fun _ => ?_)) <;> conv => whnf)
          | ((with_reducible refine Split.dec (fun _ => ?_) (fun _ => ?_)) <;> conv => whnf)
          | ((with_reducible refine Split.mk (fun _ => ?_) (fun _ => ?_)) <;> conv => whnf)
          | ((with_reducible refine Need.mk ?_ ?_); (first | omega | rfl | decide | (refine ⟨?_, ?_⟩ <;> simp <;> omega) | (simp; omega)); conv => whnf)
          | ((with_reducible refine Wr.quo ?_ ?_ ?_ ?_); omega; omega; omega; conv => whnf)
          | ((with_reducible refine Wr.inr ?_ ?_); (first | omega | (simp; omega)); conv => whnf)
          | ((with_reducible refine Wr.inu ?_ ?_); omega; conv => whnf)
          | (refine CallK.mk _ (d1) ?_; conv => whnf)
          | (refine CallK.mk _ (d2) ?_; conv => whnf)
          | (exfalso; first | omega | contradiction))
        refine PickE.map o'.length hzg (by omega) ?_
        have hms : mids (o ++ [a]) a b (k + 1) = if z.m < (midM a b (k + 1) p).m then mids (o ++ [a]) a b k ++ [midM a b (k + 1) p] else mids (o ++ [a]) a b k := by
          rw [mids_succ hp2, hz, addTw_snoc]
        conv => whnf
        repeat' (first
          | ((with_reducible refine Split.of_true ?_); conv => whnf)
          | ((with_reducible refine Split.of_false ?_); conv => whnf)
          | ((with_reducible refine Split.neg ?_))
          | ((with_reducible refine Split.is_true ?_ ?_); decide; conv => whnf)
          | ((with_reducible refine Split.is_false ?_ ?_); decide; conv => whnf)
          | ((with_reducible refine Split.nez (fun _ => ?_) (fun _ => ?_)) <;> conv => whnf)
          | ((with_reducible refine Split.eqz (fun _ => ?_) (fun _ => ?_)) <;> conv => whnf)
          | ((with_reducible refine Split.and ?_))
          | ((with_reducible refine Split.or ?_))
          | ((with_reducible refine Split.streq (fun _ => ?_) (fun _ => ?_)) <;> conv => whnf)
          | ((with_reducible refine Split.dec (fun _ => ?_) (fun _ => ?_)) <;> conv => whnf)
          | ((with_reducible refine Split.mk (fun _ => ?_) (fun _ => ?_)) <;> conv => whnf)
          | ((with_reducible refine Need.mk ?_ ?_); (first | omega | rfl | decide | (refine ⟨?_, ?_⟩ <;> simp <;> omega) | (simp; omega)); conv => whnf)
          | ((with_reducible refine Wr.quo ?_ ?_ ?_ ?_); omega; omega; omega; conv => whnf)
          | ((with_reducible refine Wr.inr ?_ ?_); (first | omega | (simp; omega)); conv => whnf)
          | ((with_reducible refine Wr.inu ?_ ?_); omega; conv => whnf)
          | (refine CallK.mk _ (d1) ?_; conv => whnf)
          | (refine CallK.mk _ (d2) ?_; conv => whnf)
          | (exfalso; first | omega | contradiction))
        · have hlt : z.m < (midM a b (k + 1) p).m := by assumption
          refine Again.au (k + 1) (by omega) (by omega) ?_
          rw [hms, if_pos hlt]
          exact ⟨by (repeat' (first | exact True.intro | exact rfl | refine ⟨?_, ?_⟩ | (intro h; cases h; done) | (intro h; exact h) | exact map_snoc | (refine own_congr ?_; simp; done) | (refine int_congr ?_; (first | omega | (simp; omega))) | (simp; done) | (refine own_congr ?_; simp [midM, mD]; done) | (simp [midM, mD]; done) | (simp [D.cells, midM, mD]; done))), by (repeat' (first | exact True.intro | exact rfl | refine ⟨?_, ?_⟩ | (intro h; cases h; done) | (intro h; exact h) | exact map_snoc | (refine own_congr ?_; simp; done) | (refine int_congr ?_; (first | omega | (simp; omega))) | (simp; done) | (refine own_congr ?_; simp [midM, mD]; done) | (simp [midM, mD]; done) | (simp [D.cells, midM, mD]; done))), rfl⟩
        · have hlt : ¬ z.m < (midM a b (k + 1) p).m := by assumption
          refine Again.au (k + 1) (by omega) (by omega) ?_
          rw [hms, if_neg hlt]
          exact ⟨by (repeat' (first | exact True.intro | exact rfl | refine ⟨?_, ?_⟩ | (intro h; cases h; done) | (intro h; exact h) | exact map_snoc | (refine own_congr ?_; simp; done) | (refine int_congr ?_; (first | omega | (simp; omega))) | (simp; done))), by (repeat' (first | exact True.intro | exact rfl | refine ⟨?_, ?_⟩ | (intro h; cases h; done) | (intro h; exact h) | exact map_snoc | (refine own_congr ?_; simp; done) | (refine int_congr ?_; (first | omega | (simp; omega))) | (simp; done))), rfl⟩
      · obtain rfl : k = 5 := by omega
        conv => whnf
        repeat' (first
          | ((refine PickE.map o'.length hzg (by omega) ?_); conv => whnf)
          | ((with_reducible refine Split.of_true ?_); conv => whnf)
          | ((with_reducible refine Split.of_false ?_); conv => whnf)
          | ((with_reducible refine Split.neg ?_))
          | ((with_reducible refine Split.is_true ?_ ?_); decide; conv => whnf)
          | ((with_reducible refine Split.is_false ?_ ?_); decide; conv => whnf)
          | ((with_reducible refine Split.nez (fun _ => ?_) (fun _ => ?_)) <;> conv => whnf)
          | ((with_reducible refine Split.eqz (fun _ => ?_) (fun _ => ?_)) <;> conv => whnf)
          | ((with_reducible refine Split.and ?_))
          | ((with_reducible refine Split.or ?_))
          | ((with_reducible refine Split.streq (fun _ => ?_) (fun _ => ?_)) <;> conv => whnf)
          | ((with_reducible refine Split.dec (fun _ => ?_) (fun _ => ?_)) <;> conv => whnf)
          | ((with_reducible refine Split.mk (fun _ => ?_) (fun _ => ?_)) <;> conv => whnf)
          | ((with_reducible refine Need.mk ?_ ?_); (first | omega | rfl | decide | (refine ⟨?_, ?_⟩ <;> simp <;> omega) | (simp; omega)); conv => whnf)
          | ((with_reducible refine Wr.quo ?_ ?_ ?_ ?_); omega; omega; omega; conv => whnf)
          | ((with_reducible refine Wr.inr ?_ ?_); (first | omega | (simp; omega)); conv => whnf)
          | ((with_reducible refine Wr.inu ?_ ?_); omega; conv => whnf)
          | (exfalso; first | omega | contradiction))
        exact Again.au (j + 2, mids (o ++ [a]) a b 5 ++ [b]) (tinv_step hI ha hm) (by dsimp only; omega) ⟨by (repeat' (first | exact True.intro | exact rfl | refine ⟨?_, ?_⟩ | (intro h; cases h; done) | (intro h; exact h) | exact map_snoc | (refine own_congr ?_; simp; done) | (refine int_congr ?_; (first | omega | (simp; omega))) | (simp; done))), by (repeat' (first | exact True.intro | exact rfl | refine ⟨?_, ?_⟩ | (intro h; cases h; done) | (intro h; exact h) | exact map_snoc | (refine own_congr ?_; simp; done) | (refine int_congr ?_; (first | omega | (simp; omega))) | (simp; done))), rfl⟩
  · have e := tinv_end hI (by omega)
    have hs : twE g = 8 := by simp [twE, h, e]; omega
    rw [twR, if_neg (by omega), hs]; rfl
  · have e := tinv_end hI (by omega)
    have hs : twE g = 0 := by simp [twE, h, e]; omega
    conv => whnf
    repeat' (first
      | ((with_reducible refine Split.of_true ?_); conv => whnf)
      | ((with_reducible refine Split.of_false ?_); conv => whnf)
      | ((with_reducible refine Split.neg ?_))
      | ((with_reducible refine Split.is_true ?_ ?_); decide; conv => whnf)
      | ((with_reducible refine Split.is_false ?_ ?_); decide; conv => whnf)
      | ((with_reducible refine Split.nez (fun _ => ?_) (fun _ => ?_)) <;> conv => whnf)
      | ((with_reducible refine Split.eqz (fun _ => ?_) (fun _ => ?_)) <;> conv => whnf)
      | ((with_reducible refine Split.and ?_))
      | ((with_reducible refine Split.or ?_))
      | ((with_reducible refine Split.streq (fun _ => ?_) (fun _ => ?_)) <;> conv => whnf)
      | ((with_reducible refine Split.dec (fun _ => ?_) (fun _ => ?_)) <;> conv => whnf)
      | ((with_reducible refine Split.mk (fun _ => ?_) (fun _ => ?_)) <;> conv => whnf)
      | ((with_reducible refine Need.mk ?_ ?_); (first | omega | rfl | decide | (refine ⟨?_, ?_⟩ <;> simp <;> omega) | (simp; omega)); conv => whnf)
      | ((with_reducible refine Wr.quo ?_ ?_ ?_ ?_); omega; omega; omega; conv => whnf)
      | ((with_reducible refine Wr.inr ?_ ?_); (first | omega | (simp; omega)); conv => whnf)
      | ((with_reducible refine Wr.inu ?_ ?_); omega; conv => whnf)
      | (refine CallK.mk _ (ev_with g acc) ?_; conv => whnf)
      | (exfalso; first | omega | contradiction))
    rw [twR, if_pos hs, hs, e]; rfl
def PInv (g : Ga) (i : Nat) (acc : List Mk) : Prop := i ≤ g.marks.length ∧ acc.length ≤ 6 * i ∧ (i = g.marks.length → acc = twL g.marks) ∧ ∀ a, g.marks[i]? = some a → twL g.marks = twGo (acc ++ [a]) a (g.marks.drop (i + 1))
theorem pinv_zero (g : Ga) : PInv g 0 [] := by
  refine ⟨by omega, by simp, fun h => ?_, fun a ha => ?_⟩
  · have : g.marks = [] := List.eq_nil_of_length_eq_zero (by omega)
    rw [this]; rfl
  · have e := drop_of ha
    rw [List.drop_zero] at e
    rw [e]; rfl
theorem pinv_step {g : Ga} {i : Nat} {acc : List Mk} {a b : Mk} (h : PInv g i acc) (ha : g.marks[i]? = some a) (hb : g.marks[i + 1]? = some b) : PInv g (i + 1) (mids (acc ++ [a]) a b 5) := by
  have := lt_of_some hb
  obtain ⟨h1, h2, h3, h4⟩ := h
  have hl := mids_len (acc := acc ++ [a]) (a := a) (b := b) 5
  refine ⟨by omega, by simp at hl; omega, fun h => by omega, fun x hx => ?_⟩
  rw [hb] at hx; cases hx
  rw [h4 a ha, drop_of hb, twGo]
theorem pinv_last {g : Ga} {i : Nat} {acc : List Mk} {a : Mk} (h : PInv g i acc) (ha : g.marks[i]? = some a) (hb : i + 1 = g.marks.length) : PInv g (i + 1) (acc ++ [a]) := by
  obtain ⟨h1, h2, h3, h4⟩ := h
  refine ⟨by omega, by simp; omega, fun _ => ?_, fun x hx => ?_⟩
  · rw [h4 a ha, List.drop_eq_nil_of_le (by omega)]; rfl
  · have := lt_of_some hx; omega
theorem part_ofR {k : Nat} (h : k < 5) : ∃ p : Int, [D.int .i64 0, D.int .i64 1, D.int .i64 3, D.int .i64 6, D.int .i64 9, D.int .i64 11][((k : Int) + 1).toNat]? = some (.int .i64 p) ∧ midL[k]? = some ((k : Int) + 1, p) ∧ 1 ≤ p ∧ p ≤ 11 := by
  have : k = 0 ∨ k = 1 ∨ k = 2 ∨ k = 3 ∨ k = 4 := by omega
  rcases this with rfl | rfl | rfl | rfl | rfl <;> exact ⟨_, rfl, rfl, by omega, by omega⟩
theorem asc_at {g : Ga} (hG : Good g) {i : Nat} {a b : Mk} (ha : g.marks[i]? = some a) (hb : g.marks[i + 1]? = some b) : a.m < b.m := by
  have := (List.pairwise_iff_getElem.1 hG.asc) i (i + 1) (lt_of_some ha) (lt_of_some hb) (by omega)
  rw [(List.getElem?_eq_some_iff.1 ha).2, (List.getElem?_eq_some_iff.1 hb).2] at this
  exact this
theorem ev_TwelfthsR (g : Ga) : Ev Try.prog 28 [gD g] (.tup [gD (twR g), .int .i64 (twE g)]) := by
  have hlen : (g.marks.map mD).length = g.marks.length := List.length_map _
  refine ev_of_awp tysOk mixed (fn := Try.f28) Try.func28 rfl rfl rfl ?_
  conv => whnf
  repeat' (first
    | ((with_reducible refine Split.of_true ?_); conv => whnf)
    | ((with_reducible refine Split.of_false ?_); conv => whnf)
    | ((with_reducible refine Split.neg ?_))
    | ((with_reducible refine Split.is_true ?_ ?_); decide; conv => whnf)
    | ((with_reducible refine Split.is_false ?_ ?_); decide; conv => whnf)
    | ((with_reducible refine Split.nez (fun _ => ?_) (fun _ => ?_)) <;> conv => whnf)
    | ((with_reducible refine Split.eqz (fun _ => ?_) (fun _ => ?_)) <;> conv => whnf)
    | ((with_reducible refine Split.and ?_))
    | ((with_reducible refine Split.or ?_))
    | ((with_reducible refine Split.streq (fun _ => ?_) (fun _ => ?_)) <;> conv => whnf)
    | ((with_reducible refine Split.dec (fun _ => ?_) (fun _ => ?_)) <;> conv => whnf)
    | ((with_reducible refine Split.mk (fun _ => ?_) (fun _ => ?_)) <;> conv => whnf)
    | ((with_reducible refine Need.mk ?_ ?_); (first | omega | rfl | decide | (refine ⟨?_, ?_⟩ <;> simp <;> omega) | (simp; omega)); conv => whnf)
    | ((with_reducible refine Wr.quo ?_ ?_ ?_ ?_); omega; omega; omega; conv => whnf)
    | ((with_reducible refine Wr.inr ?_ ?_); (first | omega | (simp; omega)); conv => whnf)
    | ((with_reducible refine Wr.inu ?_ ?_); omega; conv => whnf)
    | (refine CallK.mk _ (ev_CheckGaugeR g) ?_; conv => whnf)
    | (exfalso; first | omega | contradiction))
  · have h : gErr g ≠ 0 := by assumption
    simp [retOf, twR, twE, h]; rfl
  have h : gErr g = 0 := by assumption
  have hG := good_of h
  have hl := hG.len
  refine LoopK.o2 (fun x : Nat × List Mk => PInv g x.1 x.2)
    (fun x => [(6, .own 200 2 (x.2.map mD).length), (7, .d (.int .i64 x.1))]) (fun x => [(200, .row 48 2 (x.2.map mD) false)])
    (fun x => g.marks.length - x.1) (0, []) (pinv_zero g) ⟨by (repeat' (first | exact True.intro | exact rfl | refine ⟨?_, ?_⟩ | (intro h; cases h; done) | (intro h; exact h) | exact map_snoc | (refine own_congr ?_; simp; done) | (refine int_congr ?_; (first | omega | (simp; omega))) | (simp; done))), by (repeat' (first | exact True.intro | exact rfl | refine ⟨?_, ?_⟩ | (intro h; cases h; done) | (intro h; exact h) | exact map_snoc | (refine own_congr ?_; simp; done) | (refine int_congr ?_; (first | omega | (simp; omega))) | (simp; done))), rfl⟩ ?_
  rintro ⟨i, acc⟩ hI
  dsimp only at hI ⊢
  have hi := hI.1
  have hol := hI.2.1
  have hlo : (acc.map mD).length = acc.length := List.length_map _
  have hn : (i : Int) < g.marks.length → ∃ m, g.marks[i]? = some m := fun h => some_of_lt (by omega)
  conv => whnf
  repeat' (first
    | ((with_reducible refine Split.of_true ?_); conv => whnf)
    | ((with_reducible refine Split.of_false ?_); conv => whnf)
    | ((with_reducible refine Split.neg ?_))
    | ((with_reducible refine Split.is_true ?_ ?_); decide; conv => whnf)
    | ((with_reducible refine Split.is_false ?_ ?_); decide; conv => whnf)
    | ((with_reducible refine Split.nez (fun _ => ?_) (fun _ => ?_)) <;> conv => whnf)
    | ((with_reducible refine Split.eqz (fun _ => ?_) (fun _ => ?_)) <;> conv => whnf)
    | ((with_reducible refine Split.and ?_))
    | ((with_reducible refine Split.or ?_))
    | ((with_reducible refine Split.streq (fun _ => ?_) (fun _ => ?_)) <;> conv => whnf)
    | ((with_reducible refine Split.dec (fun _ => ?_) (fun _ => ?_)) <;> conv => whnf)
    | ((with_reducible refine Split.mk (fun _ => ?_) (fun _ => ?_)) <;> conv => whnf)
    | ((with_reducible refine Need.mk ?_ ?_); (first | omega | rfl | decide | (refine ⟨?_, ?_⟩ <;> simp <;> omega) | (simp; omega)); conv => whnf)
    | ((with_reducible refine Wr.quo ?_ ?_ ?_ ?_); omega; omega; omega; conv => whnf)
    | ((with_reducible refine Wr.inr ?_ ?_); (first | omega | (simp; omega)); conv => whnf)
    | ((with_reducible refine Wr.inu ?_ ?_); omega; conv => whnf)
    | (exfalso; first | omega | contradiction))
  · obtain ⟨a, hm⟩ := hn (by omega)
    have hma := wrongB_false (hG.ok a (List.mem_of_getElem? hm))
    conv => whnf
    repeat' (first
      | ((refine PickE.map i hm (by omega) ?_); conv => whnf)
      | ((with_reducible refine Split.of_true ?_); conv => whnf)
      | ((with_reducible refine Split.of_false ?_); conv => whnf)
      | ((with_reducible refine Split.neg ?_))
      | ((with_reducible refine Split.is_true ?_ ?_); decide; conv => whnf)
      | ((with_reducible refine Split.is_false ?_ ?_); decide; conv => whnf)
      | ((with_reducible refine Split.nez (fun _ => ?_) (fun _ => ?_)) <;> conv => whnf)
      | ((with_reducible refine Split.eqz (fun _ => ?_) (fun _ => ?_)) <;> conv => whnf)
      | ((with_reducible refine Split.and ?_))
      | ((with_reducible refine Split.or ?_))
      | ((with_reducible refine Split.streq (fun _ => ?_) (fun _ => ?_)) <;> conv => whnf)
      | ((with_reducible refine Split.dec (fun _ => ?_) (fun _ => ?_)) <;> conv => whnf)
      | ((with_reducible refine Split.mk (fun _ => ?_) (fun _ => ?_)) <;> conv => whnf)
      | ((with_reducible refine Need.mk ?_ ?_); (first | omega | rfl | decide | (refine ⟨?_, ?_⟩ <;> simp <;> omega) | (simp; omega)); conv => whnf)
      | ((with_reducible refine Wr.quo ?_ ?_ ?_ ?_); omega; omega; omega; conv => whnf)
      | ((with_reducible refine Wr.inr ?_ ?_); (first | omega | (simp; omega)); conv => whnf)
      | ((with_reducible refine Wr.inu ?_ ?_); omega; conv => whnf)
      | (exfalso; first | omega | contradiction))
    rcases Nat.lt_or_ge (i + 1) g.marks.length with hlt | hge
    · obtain ⟨b, hb⟩ := some_of_lt hlt
      have hmb := wrongB_false (hG.ok b (List.mem_of_getElem? hb))
      have hab := asc_at hG hm hb
      have hm0 : mids (acc ++ [a]) a b 0 = acc ++ [a] := rfl
      refine LoopK.o2 (fun k : Nat => k ≤ 5)
        (fun k => [(6, .own 201 2 ((mids (acc ++ [a]) a b k).map mD).length), (9, .d (.int .i64 ((k : Int) + 1)))]) (fun k => [(201, .row 48 2 ((mids (acc ++ [a]) a b k).map mD) false)])
        (fun k => 5 - k) 0 (by simp) ⟨by (repeat' (first | exact True.intro | exact rfl | refine ⟨?_, ?_⟩ | (intro h; cases h; done) | (intro h; exact h) | exact map_snoc | (refine own_congr ?_; simp; done) | (refine int_congr ?_; (first | omega | (simp; omega))) | (simp; done) | (refine own_congr ?_; simp [hm0]; done) | (simp [hm0]; done) | (simp [D.cells, hm0]; done))), by (repeat' (first | exact True.intro | exact rfl | refine ⟨?_, ?_⟩ | (intro h; cases h; done) | (intro h; exact h) | exact map_snoc | (refine own_congr ?_; simp; done) | (refine int_congr ?_; (first | omega | (simp; omega))) | (simp; done) | (refine own_congr ?_; simp [hm0]; done) | (simp [hm0]; done) | (simp [D.cells, hm0]; done))), rfl⟩ ?_
      intro k hk
      have hml := mids_len (acc := acc ++ [a]) (a := a) (b := b) k
      have hml' : (acc ++ [a]).length = acc.length + 1 := by simp
      obtain ⟨o', z, hz, hz1, hz2⟩ := mids_snoc hab k acc
      have hzl : ((mids (acc ++ [a]) a b k).map mD).length = o'.length + 1 := by rw [hz]; simp
      have hzm : (mids (acc ++ [a]) a b k).length = o'.length + 1 := by rw [hz]; simp
      have hzg : (mids (acc ++ [a]) a b k)[o'.length]? = some z := by rw [hz]; simp
      have hpt : ((k : Int) + 1) ≤ 5 → _ := fun h => part_ofR (k := k) (by omega)
      conv => whnf
      repeat' (first
        | ((with_reducible refine Split.of_true ?_); conv => whnf)
        | ((with_reducible refine Split.of_false ?_); conv => whnf)
        | ((with_reducible refine Split.neg ?_))
        | ((with_reducible refine Split.is_true ?_ ?_); decide; conv => whnf)
        | ((with_reducible refine Split.is_false ?_ ?_); decide; conv => whnf)
        | ((with_reducible refine Split.nez (fun _ => ?_) (fun _ => ?_)) <;> conv => whnf)
        | ((with_reducible refine Split.eqz (fun _ => ?_) (fun _ => ?_)) <;> conv => whnf)
        | ((with_reducible refine Split.and ?_))
        | ((with_reducible refine Split.or ?_))
        | ((with_reducible refine Split.streq (fun _ => ?_) (fun _ => ?_)) <;> conv => whnf)
        | ((with_reducible refine Split.dec (fun _ => ?_) (fun _ => ?_)) <;> conv => whnf)
        | ((with_reducible refine Split.mk (fun _ => ?_) (fun _ => ?_)) <;> conv => whnf)
        | ((with_reducible refine Need.mk ?_ ?_); (first | omega | rfl | decide | (refine ⟨?_, ?_⟩ <;> simp <;> omega) | (simp; omega)); conv => whnf)
        | ((with_reducible refine Wr.quo ?_ ?_ ?_ ?_); omega; omega; omega; conv => whnf)
        | ((with_reducible refine Wr.inr ?_ ?_); (first | omega | (simp; omega)); conv => whnf)
        | ((with_reducible refine Wr.inu ?_ ?_); omega; conv => whnf)
        | (exfalso; first | omega | contradiction))
      · obtain ⟨p, hp1, hp2, hp3⟩ := hpt (by omega)
        have e1 := mul_bd (x := ((k : Int) + 1)) (y := b.m - a.m) (X := 5) (Y := 1000000) (by omega) (by omega)
        have e0 : 0 ≤ ((k : Int) + 1) * (b.m - a.m) := Int.mul_nonneg (by omega) (by omega)
        have e2 := mul_bd (x := p) (y := b.l - a.l) (X := 11) (Y := 40000) (by omega) (by omega)
        have d2 := ev_Down (p * (b.l - a.l)) 12 (by omega) (by omega)
        have hms : mids (acc ++ [a]) a b (k + 1) = if z.m < (midM a b ((k : Int) + 1) p).m then mids (acc ++ [a]) a b k ++ [midM a b ((k : Int) + 1) p] else mids (acc ++ [a]) a b k := by
          rw [mids_succ hp2, hz, addTw_snoc]
        have hk5 : k = 0 ∨ k = 1 ∨ k = 2 ∨ k = 3 ∨ k = 4 := by omega
        have fin : ∀ q : Int, midL[k]? = some ((k : Int) + 1, q) → p = q := fun q hq => by rw [hp2] at hq; simpa using hq
        rcases hk5 with rfl | rfl | rfl | rfl | rfl
        · obtain rfl := fin 1 rfl
          conv => whnf
          repeat' (first
            | ((refine PickE.map o'.length hzg (by omega) ?_); conv => whnf)
            | ((refine PickE.map (i + 1) hb (by omega) ?_); conv => whnf)
            | ((with_reducible refine Split.of_true ?_); conv => whnf)
            | ((with_reducible refine Split.of_false ?_); conv => whnf)
            | ((with_reducible refine Split.neg ?_))
            | ((with_reducible refine Split.is_true ?_ ?_); decide; conv => whnf)
            | ((with_reducible refine Split.is_false ?_ ?_); decide; conv => whnf)
            | ((with_reducible refine Split.nez (fun _ => ?_) (fun _ => ?_)) <;> conv => whnf)
            | ((with_reducible refine Split.eqz (fun _ => ?_) (fun _ => ?_)) <;> conv => whnf)
            | ((with_reducible refine Split.and ?_))
            | ((with_reducible refine Split.or ?_))
            | ((with_reducible refine Split.streq (fun _ => ?_) (fun _ => ?_)) <;> conv => whnf)
            | ((with_reducible refine Split.dec (fun _ => ?_) (fun _ => ?_)) <;> conv => whnf)
            | ((with_reducible refine Split.mk (fun _ => ?_) (fun _ => ?_)) <;> conv => whnf)
            | ((with_reducible refine Need.mk ?_ ?_); (first | omega | rfl | decide | (refine ⟨?_, ?_⟩ <;> simp <;> omega) | (simp; omega)); conv => whnf)
            | ((with_reducible refine Wr.quo ?_ ?_ ?_ ?_); omega; omega; omega; conv => whnf)
            | ((with_reducible refine Wr.inr ?_ ?_); (first | omega | (simp; omega)); conv => whnf)
            | ((with_reducible refine Wr.inu ?_ ?_); omega; conv => whnf)
            | (refine CallK.mk _ (d2) ?_; conv => whnf)
            | (exfalso; first | omega | contradiction))
          · have hlt : z.m < (midM a b (((0 : Nat) : Int) + 1) 1).m := by assumption
            refine Again.au (0 + 1) (by omega) (by omega) ?_
            rw [hms, if_pos hlt]
            exact ⟨by (repeat' (first | exact True.intro | exact rfl | refine ⟨?_, ?_⟩ | (intro h; cases h; done) | (intro h; exact h) | exact map_snoc | (refine own_congr ?_; simp; done) | (refine int_congr ?_; (first | omega | (simp; omega))) | (simp; done) | (refine own_congr ?_; simp [midM, mD]; done) | (simp [midM, mD]; done) | (simp [D.cells, midM, mD]; done))), by (repeat' (first | exact True.intro | exact rfl | refine ⟨?_, ?_⟩ | (intro h; cases h; done) | (intro h; exact h) | exact map_snoc | (refine own_congr ?_; simp; done) | (refine int_congr ?_; (first | omega | (simp; omega))) | (simp; done) | (refine own_congr ?_; simp [midM, mD]; done) | (simp [midM, mD]; done) | (simp [D.cells, midM, mD]; done))), rfl⟩
          · have hlt : ¬ z.m < (midM a b (((0 : Nat) : Int) + 1) 1).m := by assumption
            refine Again.au (0 + 1) (by omega) (by omega) ?_
            rw [hms, if_neg hlt]
            exact ⟨by (repeat' (first | exact True.intro | exact rfl | refine ⟨?_, ?_⟩ | (intro h; cases h; done) | (intro h; exact h) | exact map_snoc | (refine own_congr ?_; simp; done) | (refine int_congr ?_; (first | omega | (simp; omega))) | (simp; done))), by (repeat' (first | exact True.intro | exact rfl | refine ⟨?_, ?_⟩ | (intro h; cases h; done) | (intro h; exact h) | exact map_snoc | (refine own_congr ?_; simp; done) | (refine int_congr ?_; (first | omega | (simp; omega))) | (simp; done))), rfl⟩
        · obtain rfl := fin 3 rfl
          conv => whnf
          repeat' (first
            | ((refine PickE.map o'.length hzg (by omega) ?_); conv => whnf)
            | ((refine PickE.map (i + 1) hb (by omega) ?_); conv => whnf)
            | ((with_reducible refine Split.of_true ?_); conv => whnf)
            | ((with_reducible refine Split.of_false ?_); conv => whnf)
            | ((with_reducible refine Split.neg ?_))
            | ((with_reducible refine Split.is_true ?_ ?_); decide; conv => whnf)
            | ((with_reducible refine Split.is_false ?_ ?_); decide; conv => whnf)
            | ((with_reducible refine Split.nez (fun _ => ?_) (fun _ => ?_)) <;> conv => whnf)
            | ((with_reducible refine Split.eqz (fun _ => ?_) (fun _ => ?_)) <;> conv => whnf)
            | ((with_reducible refine Split.and ?_))
            | ((with_reducible refine Split.or ?_))
            | ((with_reducible refine Split.streq (fun _ => ?_) (fun _ => ?_)) <;> conv => whnf)
            | ((with_reducible refine Split.dec (fun _ => ?_) (fun _ => ?_)) <;> conv => whnf)
            | ((with_reducible refine Split.mk (fun _ => ?_) (fun _ => ?_)) <;> conv => whnf)
            | ((with_reducible refine Need.mk ?_ ?_); (first | omega | rfl | decide | (refine ⟨?_, ?_⟩ <;> simp <;> omega) | (simp; omega)); conv => whnf)
            | ((with_reducible refine Wr.quo ?_ ?_ ?_ ?_); omega; omega; omega; conv => whnf)
            | ((with_reducible refine Wr.inr ?_ ?_); (first | omega | (simp; omega)); conv => whnf)
            | ((with_reducible refine Wr.inu ?_ ?_); omega; conv => whnf)
            | (refine CallK.mk _ (d2) ?_; conv => whnf)
            | (exfalso; first | omega | contradiction))
          · have hlt : z.m < (midM a b (((1 : Nat) : Int) + 1) 3).m := by assumption
            refine Again.au (1 + 1) (by omega) (by omega) ?_
            rw [hms, if_pos hlt]
            exact ⟨by (repeat' (first | exact True.intro | exact rfl | refine ⟨?_, ?_⟩ | (intro h; cases h; done) | (intro h; exact h) | exact map_snoc | (refine own_congr ?_; simp; done) | (refine int_congr ?_; (first | omega | (simp; omega))) | (simp; done) | (refine own_congr ?_; simp [midM, mD]; done) | (simp [midM, mD]; done) | (simp [D.cells, midM, mD]; done))), by (repeat' (first | exact True.intro | exact rfl | refine ⟨?_, ?_⟩ | (intro h; cases h; done) | (intro h; exact h) | exact map_snoc | (refine own_congr ?_; simp; done) | (refine int_congr ?_; (first | omega | (simp; omega))) | (simp; done) | (refine own_congr ?_; simp [midM, mD]; done) | (simp [midM, mD]; done) | (simp [D.cells, midM, mD]; done))), rfl⟩
          · have hlt : ¬ z.m < (midM a b (((1 : Nat) : Int) + 1) 3).m := by assumption
            refine Again.au (1 + 1) (by omega) (by omega) ?_
            rw [hms, if_neg hlt]
            exact ⟨by (repeat' (first | exact True.intro | exact rfl | refine ⟨?_, ?_⟩ | (intro h; cases h; done) | (intro h; exact h) | exact map_snoc | (refine own_congr ?_; simp; done) | (refine int_congr ?_; (first | omega | (simp; omega))) | (simp; done))), by (repeat' (first | exact True.intro | exact rfl | refine ⟨?_, ?_⟩ | (intro h; cases h; done) | (intro h; exact h) | exact map_snoc | (refine own_congr ?_; simp; done) | (refine int_congr ?_; (first | omega | (simp; omega))) | (simp; done))), rfl⟩
        · obtain rfl := fin 6 rfl
          conv => whnf
          repeat' (first
            | ((refine PickE.map o'.length hzg (by omega) ?_); conv => whnf)
            | ((refine PickE.map (i + 1) hb (by omega) ?_); conv => whnf)
            | ((with_reducible refine Split.of_true ?_); conv => whnf)
            | ((with_reducible refine Split.of_false ?_); conv => whnf)
            | ((with_reducible refine Split.neg ?_))
            | ((with_reducible refine Split.is_true ?_ ?_); decide; conv => whnf)
            | ((with_reducible refine Split.is_false ?_ ?_); decide; conv => whnf)
            | ((with_reducible refine Split.nez (fun _ => ?_) (fun _ => ?_)) <;> conv => whnf)
            | ((with_reducible refine Split.eqz (fun _ => ?_) (fun _ => ?_)) <;> conv => whnf)
            | ((with_reducible refine Split.and ?_))
            | ((with_reducible refine Split.or ?_))
            | ((with_reducible refine Split.streq (fun _ => ?_) (fun _ => ?_)) <;> conv => whnf)
            | ((with_reducible refine Split.dec (fun _ => ?_) (fun _ => ?_)) <;> conv => whnf)
            | ((with_reducible refine Split.mk (fun _ => ?_) (fun _ => ?_)) <;> conv => whnf)
            | ((with_reducible refine Need.mk ?_ ?_); (first | omega | rfl | decide | (refine ⟨?_, ?_⟩ <;> simp <;> omega) | (simp; omega)); conv => whnf)
            | ((with_reducible refine Wr.quo ?_ ?_ ?_ ?_); omega; omega; omega; conv => whnf)
            | ((with_reducible refine Wr.inr ?_ ?_); (first | omega | (simp; omega)); conv => whnf)
            | ((with_reducible refine Wr.inu ?_ ?_); omega; conv => whnf)
            | (refine CallK.mk _ (d2) ?_; conv => whnf)
            | (exfalso; first | omega | contradiction))
          · have hlt : z.m < (midM a b (((2 : Nat) : Int) + 1) 6).m := by assumption
            refine Again.au (2 + 1) (by omega) (by omega) ?_
            rw [hms, if_pos hlt]
            exact ⟨by (repeat' (first | exact True.intro | exact rfl | refine ⟨?_, ?_⟩ | (intro h; cases h; done) | (intro h; exact h) | exact map_snoc | (refine own_congr ?_; simp; done) | (refine int_congr ?_; (first | omega | (simp; omega))) | (simp; done) | (refine own_congr ?_; simp [midM, mD]; done) | (simp [midM, mD]; done) | (simp [D.cells, midM, mD]; done))), by (repeat' (first | exact True.intro | exact rfl | refine ⟨?_, ?_⟩ | (intro h; cases h; done) | (intro h; exact h) | exact map_snoc | (refine own_congr ?_; simp; done) | (refine int_congr ?_; (first | omega | (simp; omega))) | (simp; done) | (refine own_congr ?_; simp [midM, mD]; done) | (simp [midM, mD]; done) | (simp [D.cells, midM, mD]; done))), rfl⟩
          · have hlt : ¬ z.m < (midM a b (((2 : Nat) : Int) + 1) 6).m := by assumption
            refine Again.au (2 + 1) (by omega) (by omega) ?_
            rw [hms, if_neg hlt]
            exact ⟨by (repeat' (first | exact True.intro | exact rfl | refine ⟨?_, ?_⟩ | (intro h; cases h; done) | (intro h; exact h) | exact map_snoc | (refine own_congr ?_; simp; done) | (refine int_congr ?_; (first | omega | (simp; omega))) | (simp; done))), by (repeat' (first | exact True.intro | exact rfl | refine ⟨?_, ?_⟩ | (intro h; cases h; done) | (intro h; exact h) | exact map_snoc | (refine own_congr ?_; simp; done) | (refine int_congr ?_; (first | omega | (simp; omega))) | (simp; done))), rfl⟩
        · obtain rfl := fin 9 rfl
          conv => whnf
          repeat' (first
            | ((refine PickE.map o'.length hzg (by omega) ?_); conv => whnf)
            | ((refine PickE.map (i + 1) hb (by omega) ?_); conv => whnf)
            | ((with_reducible refine Split.of_true ?_); conv => whnf)
            | ((with_reducible refine Split.of_false ?_); conv => whnf)
            | ((with_reducible refine Split.neg ?_))
            | ((with_reducible refine Split.is_true ?_ ?_); decide; conv => whnf)
            | ((with_reducible refine Split.is_false ?_ ?_); decide; conv => whnf)
            | ((with_reducible refine Split.nez (fun _ => ?_) (fun _ => ?_)) <;> conv => whnf)
            | ((with_reducible refine Split.eqz (fun _ => ?_) (fun _ => ?_)) <;> conv => whnf)
            | ((with_reducible refine Split.and ?_))
            | ((with_reducible refine Split.or ?_))
            | ((with_reducible refine Split.streq (fun _ => ?_) (fun _ => ?_)) <;> conv => whnf)
            | ((with_reducible refine Split.dec (fun _ => ?_) (fun _ => ?_)) <;> conv => whnf)
            | ((with_reducible refine Split.mk (fun _ => ?_) (fun _ => ?_)) <;> conv => whnf)
            | ((with_reducible refine Need.mk ?_ ?_); (first | omega | rfl | decide | (refine ⟨?_, ?_⟩ <;> simp <;> omega) | (simp; omega)); conv => whnf)
            | ((with_reducible refine Wr.quo ?_ ?_ ?_ ?_); omega; omega; omega; conv => whnf)
            | ((with_reducible refine Wr.inr ?_ ?_); (first | omega | (simp; omega)); conv => whnf)
            | ((with_reducible refine Wr.inu ?_ ?_); omega; conv => whnf)
            | (refine CallK.mk _ (d2) ?_; conv => whnf)
            | (exfalso; first | omega | contradiction))
          · have hlt : z.m < (midM a b (((3 : Nat) : Int) + 1) 9).m := by assumption
            refine Again.au (3 + 1) (by omega) (by omega) ?_
            rw [hms, if_pos hlt]
            exact ⟨by (repeat' (first | exact True.intro | exact rfl | refine ⟨?_, ?_⟩ | (intro h; cases h; done) | (intro h; exact h) | exact map_snoc | (refine own_congr ?_; simp; done) | (refine int_congr ?_; (first | omega | (simp; omega))) | (simp; done) | (refine own_congr ?_; simp [midM, mD]; done) | (simp [midM, mD]; done) | (simp [D.cells, midM, mD]; done))), by (repeat' (first | exact True.intro | exact rfl | refine ⟨?_, ?_⟩ | (intro h; cases h; done) | (intro h; exact h) | exact map_snoc | (refine own_congr ?_; simp; done) | (refine int_congr ?_; (first | omega | (simp; omega))) | (simp; done) | (refine own_congr ?_; simp [midM, mD]; done) | (simp [midM, mD]; done) | (simp [D.cells, midM, mD]; done))), rfl⟩
          · have hlt : ¬ z.m < (midM a b (((3 : Nat) : Int) + 1) 9).m := by assumption
            refine Again.au (3 + 1) (by omega) (by omega) ?_
            rw [hms, if_neg hlt]
            exact ⟨by (repeat' (first | exact True.intro | exact rfl | refine ⟨?_, ?_⟩ | (intro h; cases h; done) | (intro h; exact h) | exact map_snoc | (refine own_congr ?_; simp; done) | (refine int_congr ?_; (first | omega | (simp; omega))) | (simp; done))), by (repeat' (first | exact True.intro | exact rfl | refine ⟨?_, ?_⟩ | (intro h; cases h; done) | (intro h; exact h) | exact map_snoc | (refine own_congr ?_; simp; done) | (refine int_congr ?_; (first | omega | (simp; omega))) | (simp; done))), rfl⟩
        · obtain rfl := fin 11 rfl
          conv => whnf
          repeat' (first
            | ((refine PickE.map o'.length hzg (by omega) ?_); conv => whnf)
            | ((refine PickE.map (i + 1) hb (by omega) ?_); conv => whnf)
            | ((with_reducible refine Split.of_true ?_); conv => whnf)
            | ((with_reducible refine Split.of_false ?_); conv => whnf)
            | ((with_reducible refine Split.neg ?_))
            | ((with_reducible refine Split.is_true ?_ ?_); decide; conv => whnf)
            | ((with_reducible refine Split.is_false ?_ ?_); decide; conv => whnf)
            | ((with_reducible refine Split.nez (fun _ => ?_) (fun _ => ?_)) <;> conv => whnf)
            | ((with_reducible refine Split.eqz (fun _ => ?_) (fun _ => ?_)) <;> conv => whnf)
            | ((with_reducible refine Split.and ?_))
            | ((with_reducible refine Split.or ?_))
            | ((with_reducible refine Split.streq (fun _ => ?_) (fun _ => ?_)) <;> conv => whnf)
            | ((with_reducible refine Split.dec (fun _ => ?_) (fun _ => ?_)) <;> conv => whnf)
            | ((with_reducible refine Split.mk (fun _ => ?_) (fun _ => ?_)) <;> conv => whnf)
            | ((with_reducible refine Need.mk ?_ ?_); (first | omega | rfl | decide | (refine ⟨?_, ?_⟩ <;> simp <;> omega) | (simp; omega)); conv => whnf)
            | ((with_reducible refine Wr.quo ?_ ?_ ?_ ?_); omega; omega; omega; conv => whnf)
            | ((with_reducible refine Wr.inr ?_ ?_); (first | omega | (simp; omega)); conv => whnf)
            | ((with_reducible refine Wr.inu ?_ ?_); omega; conv => whnf)
            | (refine CallK.mk _ (d2) ?_; conv => whnf)
            | (exfalso; first | omega | contradiction))
          · have hlt : z.m < (midM a b (((4 : Nat) : Int) + 1) 11).m := by assumption
            refine Again.au (4 + 1) (by omega) (by omega) ?_
            rw [hms, if_pos hlt]
            exact ⟨by (repeat' (first | exact True.intro | exact rfl | refine ⟨?_, ?_⟩ | (intro h; cases h; done) | (intro h; exact h) | exact map_snoc | (refine own_congr ?_; simp; done) | (refine int_congr ?_; (first | omega | (simp; omega))) | (simp; done) | (refine own_congr ?_; simp [midM, mD]; done) | (simp [midM, mD]; done) | (simp [D.cells, midM, mD]; done))), by (repeat' (first | exact True.intro | exact rfl | refine ⟨?_, ?_⟩ | (intro h; cases h; done) | (intro h; exact h) | exact map_snoc | (refine own_congr ?_; simp; done) | (refine int_congr ?_; (first | omega | (simp; omega))) | (simp; done) | (refine own_congr ?_; simp [midM, mD]; done) | (simp [midM, mD]; done) | (simp [D.cells, midM, mD]; done))), rfl⟩
          · have hlt : ¬ z.m < (midM a b (((4 : Nat) : Int) + 1) 11).m := by assumption
            refine Again.au (4 + 1) (by omega) (by omega) ?_
            rw [hms, if_neg hlt]
            exact ⟨by (repeat' (first | exact True.intro | exact rfl | refine ⟨?_, ?_⟩ | (intro h; cases h; done) | (intro h; exact h) | exact map_snoc | (refine own_congr ?_; simp; done) | (refine int_congr ?_; (first | omega | (simp; omega))) | (simp; done))), by (repeat' (first | exact True.intro | exact rfl | refine ⟨?_, ?_⟩ | (intro h; cases h; done) | (intro h; exact h) | exact map_snoc | (refine own_congr ?_; simp; done) | (refine int_congr ?_; (first | omega | (simp; omega))) | (simp; done))), rfl⟩
      · obtain rfl : k = 5 := by omega
        conv => whnf
        repeat' (first
          | ((with_reducible refine Split.of_true ?_); conv => whnf)
          | ((with_reducible refine Split.of_false ?_); conv => whnf)
          | ((with_reducible refine Split.neg ?_))
          | ((with_reducible refine Split.is_true ?_ ?_); decide; conv => whnf)
          | ((with_reducible refine Split.is_false ?_ ?_); decide; conv => whnf)
          | ((with_reducible refine Split.nez (fun _ => ?_) (fun _ => ?_)) <;> conv => whnf)
          | ((with_reducible refine Split.eqz (fun _ => ?_) (fun _ => ?_)) <;> conv => whnf)
          | ((with_reducible refine Split.and ?_))
          | ((with_reducible refine Split.or ?_))
          | ((with_reducible refine Split.streq (fun _ => ?_) (fun _ => ?_)) <;> conv => whnf)
          | ((with_reducible refine Split.dec (fun _ => ?_) (fun _ => ?_)) <;> conv => whnf)
          | ((with_reducible refine Split.mk (fun _ => ?_) (fun _ => ?_)) <;> conv => whnf)
          | ((with_reducible refine Need.mk ?_ ?_); (first | omega | rfl | decide | (refine ⟨?_, ?_⟩ <;> simp <;> omega) | (simp; omega)); conv => whnf)
          | ((with_reducible refine Wr.quo ?_ ?_ ?_ ?_); omega; omega; omega; conv => whnf)
          | ((with_reducible refine Wr.inr ?_ ?_); (first | omega | (simp; omega)); conv => whnf)
          | ((with_reducible refine Wr.inu ?_ ?_); omega; conv => whnf)
          | (exfalso; first | omega | contradiction))
        exact Again.au (i + 1, mids (acc ++ [a]) a b 5) (pinv_step hI hm hb) (by dsimp only; omega) ⟨by (repeat' (first | exact True.intro | exact rfl | refine ⟨?_, ?_⟩ | (intro h; cases h; done) | (intro h; exact h) | exact map_snoc | (refine own_congr ?_; simp; done) | (refine int_congr ?_; (first | omega | (simp; omega))) | (simp; done))), by (repeat' (first | exact True.intro | exact rfl | refine ⟨?_, ?_⟩ | (intro h; cases h; done) | (intro h; exact h) | exact map_snoc | (refine own_congr ?_; simp; done) | (refine int_congr ?_; (first | omega | (simp; omega))) | (simp; done))), rfl⟩
    · refine LoopK.o2 (fun _ : Unit => True)
        (fun _ => [(6, .own 201 2 ((acc ++ [a]).map mD).length), (9, .d (.int .i64 1))]) (fun _ => [(201, .row 48 2 ((acc ++ [a]).map mD) false)])
        (fun _ => 0) () trivial ⟨by (repeat' (first | exact True.intro | exact rfl | refine ⟨?_, ?_⟩ | (intro h; cases h; done) | (intro h; exact h) | exact map_snoc | (refine own_congr ?_; simp; done) | (refine int_congr ?_; (first | omega | (simp; omega))) | (simp; done) | (refine own_congr ?_; simp [mD]; done) | (simp [mD]; done) | (simp [D.cells, mD]; done))), by (repeat' (first | exact True.intro | exact rfl | refine ⟨?_, ?_⟩ | (intro h; cases h; done) | (intro h; exact h) | exact map_snoc | (refine own_congr ?_; simp; done) | (refine int_congr ?_; (first | omega | (simp; omega))) | (simp; done) | (refine own_congr ?_; simp [mD]; done) | (simp [mD]; done) | (simp [D.cells, mD]; done))), rfl⟩ ?_
      intro _ _
      conv => whnf
      repeat' (first
        | ((with_reducible refine Split.of_true ?_); conv => whnf)
        | ((with_reducible refine Split.of_false ?_); conv => whnf)
        | ((with_reducible refine Split.neg ?_))
        | ((with_reducible refine Split.is_true ?_ ?_); decide; conv => whnf)
        | ((with_reducible refine Split.is_false ?_ ?_); decide; conv => whnf)
        | ((with_reducible refine Split.nez (fun _ => ?_) (fun _ => ?_)) <;> conv => whnf)
        | ((with_reducible refine Split.eqz (fun _ => ?_) (fun _ => ?_)) <;> conv => whnf)
        | ((with_reducible refine Split.and ?_))
        | ((with_reducible refine Split.or ?_))
        | ((with_reducible refine Split.streq (fun _ => ?_) (fun _ => ?_)) <;> conv => whnf)
        | ((with_reducible refine Split.dec (fun _ => ?_) (fun _ => ?_)) <;> conv => whnf)
        | ((with_reducible refine Split.mk (fun _ => ?_) (fun _ => ?_)) <;> conv => whnf)
        | ((with_reducible refine Need.mk ?_ ?_); (first | omega | rfl | decide | (refine ⟨?_, ?_⟩ <;> simp <;> omega) | (simp; omega)); conv => whnf)
        | ((with_reducible refine Wr.quo ?_ ?_ ?_ ?_); omega; omega; omega; conv => whnf)
        | ((with_reducible refine Wr.inr ?_ ?_); (first | omega | (simp; omega)); conv => whnf)
        | ((with_reducible refine Wr.inu ?_ ?_); omega; conv => whnf)
        | (exfalso; first | omega | contradiction))
      exact Again.au (i + 1, acc ++ [a]) (pinv_last hI hm (by omega)) (by dsimp only; omega) ⟨by (repeat' (first | exact True.intro | exact rfl | refine ⟨?_, ?_⟩ | (intro h; cases h; done) | (intro h; exact h) | exact map_snoc | (refine own_congr ?_; simp; done) | (refine int_congr ?_; (first | omega | (simp; omega))) | (simp; done))), by (repeat' (first | exact True.intro | exact rfl | refine ⟨?_, ?_⟩ | (intro h; cases h; done) | (intro h; exact h) | exact map_snoc | (refine own_congr ?_; simp; done) | (refine int_congr ?_; (first | omega | (simp; omega))) | (simp; done))), rfl⟩
  · have e := hI.2.2.1 (by omega)
    have hs : twE g = 8 := by simp [twE, h, ← e]; omega
    rw [twR, if_neg (by omega), hs]; rfl
  · have e := hI.2.2.1 (by omega)
    have hs : twE g = 0 := by simp [twE, h, ← e]; omega
    conv => whnf
    repeat' (first
      | ((with_reducible refine Split.of_true ?_); conv => whnf)
      | ((with_reducible refine Split.of_false ?_); conv => whnf)
      | ((with_reducible refine Split.neg ?_))
      | ((with_reducible refine Split.is_true ?_ ?_); decide; conv => whnf)
      | ((with_reducible refine Split.is_false ?_ ?_); decide; conv => whnf)
      | ((with_reducible refine Split.nez (fun _ => ?_) (fun _ => ?_)) <;> conv => whnf)
      | ((with_reducible refine Split.eqz (fun _ => ?_) (fun _ => ?_)) <;> conv => whnf)
      | ((with_reducible refine Split.and ?_))
      | ((with_reducible refine Split.or ?_))
      | ((with_reducible refine Split.streq (fun _ => ?_) (fun _ => ?_)) <;> conv => whnf)
      | ((with_reducible refine Split.dec (fun _ => ?_) (fun _ => ?_)) <;> conv => whnf)
      | ((with_reducible refine Split.mk (fun _ => ?_) (fun _ => ?_)) <;> conv => whnf)
      | ((with_reducible refine Need.mk ?_ ?_); (first | omega | rfl | decide | (refine ⟨?_, ?_⟩ <;> simp <;> omega) | (simp; omega)); conv => whnf)
      | ((with_reducible refine Wr.quo ?_ ?_ ?_ ?_); omega; omega; omega; conv => whnf)
      | ((with_reducible refine Wr.inr ?_ ?_); (first | omega | (simp; omega)); conv => whnf)
      | ((with_reducible refine Wr.inu ?_ ?_); omega; conv => whnf)
      | (refine CallK.mk _ (ev_withR g acc) ?_; conv => whnf)
      | (exfalso; first | omega | contradiction))
    rw [twR, if_pos hs, hs, ← e]; rfl
end Go.Proofs.Try
