/- Texts SdFf, joined; what is not needed is left out. -/
import Derived.Test.YtkkngciaphfifaaGreatMpe
section
namespace Go.Proofs.Tryz
open Go Go.Vm Go.Sort
set_option maxRecDepth 20000
set_option maxHeartbeats 8000000
/-! SoundingHighest. -/
theorem mx_spec (g : Gr) (v : Sg → Int) (i : Int) (m : List Sg) : match maxO g v m i with
    | none => ∀ s ∈ m, cellI g s ≠ i
    | some x => (∃ s ∈ m, cellI g s = i ∧ v s = x) ∧ ∀ s ∈ m, cellI g s = i → v s ≤ x := by
  refine list_snoc (P := fun m => match maxO g v m i with
    | none => ∀ s ∈ m, cellI g s ≠ i
    | some x => (∃ s ∈ m, cellI g s = i ∧ v s = x) ∧ ∀ s ∈ m, cellI g s = i → v s ≤ x) (fun s h => (by cases h)) (fun m s ih => ?_) m
  have e : maxO g v (m ++ [s]) i = mxStep g v i (maxO g v m i) s := by rw [maxO, List.foldl_append]; rfl
  rw [e]
  unfold mxStep
  by_cases hc : cellI g s = i
  · rw [if_pos hc]
    cases hm : maxO g v m i with
    | none =>
      rw [hm] at ih
      simp only at ih ⊢
      refine ⟨⟨s, by simp, hc, rfl⟩, fun t ht htc => ?_⟩
      rcases List.mem_append.1 ht with ht | ht
      · exact absurd htc (ih t ht)
      · rw [List.mem_singleton.1 ht]; exact Int.le_refl _
    | some x =>
      rw [hm] at ih
      simp only at ih ⊢
      obtain ⟨⟨t, ht, h1, h2⟩, h3⟩ := ih
      split
      · rename_i hgt
        refine ⟨⟨s, by simp, hc, rfl⟩, fun t ht htc => ?_⟩
        rcases List.mem_append.1 ht with ht | ht
        · have := h3 t ht htc; omega
        · rw [List.mem_singleton.1 ht]; exact Int.le_refl _
      · rename_i hgt
        refine ⟨⟨t, List.mem_append_left _ ht, h1, h2⟩, fun t ht htc => ?_⟩
        rcases List.mem_append.1 ht with ht | ht
        · exact h3 t ht htc
        · rw [List.mem_singleton.1 ht]; omega
  · rw [if_neg hc]
    cases hm : maxO g v m i with
    | none =>
      rw [hm] at ih
      simp only at ih ⊢
      intro t ht
      rcases List.mem_append.1 ht with ht | ht
      · exact ih t ht
      · rw [List.mem_singleton.1 ht]; exact hc
    | some x =>
      rw [hm] at ih
      simp only at ih ⊢
      obtain ⟨⟨t, ht, h1, h2⟩, h3⟩ := ih
      refine ⟨⟨t, List.mem_append_left _ ht, h1, h2⟩, fun t ht htc => ?_⟩
      rcases List.mem_append.1 ht with ht | ht
      · exact h3 t ht htc
      · rw [List.mem_singleton.1 ht] at htc; exact absurd htc hc
theorem mx_none {g : Gr} {v : Sg → Int} {i : Int} {m : List Sg} (h : maxO g v m i = none) : ∀ s ∈ m, cellI g s ≠ i := by
  have := mx_spec g v i m
  rw [h] at this; exact this
theorem mx_some {g : Gr} {v : Sg → Int} {i x : Int} {m : List Sg} (h : maxO g v m i = some x) : (∃ s ∈ m, cellI g s = i ∧ v s = x) ∧ ∀ s ∈ m, cellI g s = i → v s ≤ x := by
  have := mx_spec g v i m
  rw [h] at this; exact this
def combO : Option Int → Option Int → Option Int
  | none, b => b
  | a, none => a
  | some a, some b => some (maxI a b)
theorem mx_app (g : Gr) (v : Sg → Int) (i : Int) (a b : List Sg) : maxO g v (a ++ b) i = combO (maxO g v a i) (maxO g v b i) := by
  refine list_snoc (P := fun b => maxO g v (a ++ b) i = combO (maxO g v a i) (maxO g v b i)) ?_ (fun b s ih => ?_) b
  · rw [List.append_nil]; cases maxO g v a i <;> rfl
  · have e : ∀ m : List Sg, maxO g v (m ++ [s]) i = mxStep g v i (maxO g v m i) s := fun m => by rw [maxO, List.foldl_append]; rfl
    rw [← List.append_assoc, e, e, ih]
    unfold mxStep
    by_cases hc : cellI g s = i
    · rw [if_pos hc, if_pos hc]
      cases maxO g v a i <;> cases maxO g v b i <;> simp only [combO]
      all_goals (congr 1 <;> unfold maxI <;> (repeat' split) <;> omega)
    · rw [if_neg hc, if_neg hc]
def inC (g : Gr) (i : Nat) (s : Sg) : Bool := decide (cellI g s = (i : Int))
theorem cn_get {g : Gr} (hF : FrOk g) {i : Nat} (hi : i < cellsN g) (m : List Sg) : (cnS g m)[i]? = some ((m.countP (inC g i) : Nat) : Int) := by
  refine list_snoc (P := fun m => (cnS g m)[i]? = some ((m.countP (inC g i) : Nat) : Int)) (by simp [cnS, hi]) (fun m s ih => ?_) m
  have e : cnS g (m ++ [s]) = cnStep g (cnS g m) s := by rw [cnS, List.foldl_append]; rfl
  have hl := cn_len g m
  rw [e, cnStep, List.countP_append]
  by_cases hc : cellI g s = -1
  · rw [if_pos hc, ih]
    have : inC g i s = false := by simp [inC]; omega
    simp [this]
  · rw [if_neg hc]
    have hin := cell_in hF hc
    by_cases e2 : cellI g s = (i : Int)
    · have e3 : (cellI g s).toNat = i := by omega
      have e4 : inC g i s = true := by simp [inC, e2]
      rw [e3, List.getElem?_set, if_pos rfl, if_pos (by omega), ih]
      simp [e4]
    · have e3 : (cellI g s).toNat ≠ i := by omega
      have e4 : inC g i s = false := by simp [inC, e2]
      rw [List.getElem?_set_ne e3, ih]
      simp [e4]
theorem lev_get {g : Gr} {v : Sg → Int} {l : List Sg} {i : Nat} (hi : i < cellsN g) : (levS g v l)[i]? = some ((maxO g v l (i : Int)).getD 30000) := by
  rw [levS, List.getElem?_map, List.getElem?_range hi]; rfl
theorem lev_len (g : Gr) (v : Sg → Int) (l : List Sg) : (levS g v l).length = cellsN g := by simp [levS]
def hvB (g : Gr) (i : Nat) (x : Int) (m : List Sg) : Bool := m.any fun s => inC g i s && decide (s.hi = x)
theorem hv_snoc (g : Gr) (i : Nat) (x : Int) {m : List Sg} {k : Nat} {s : Sg} (h : m[k]? = some s) : hvB g i x (m.take (k + 1)) = (hvB g i x (m.take k) || (inC g i s && decide (s.hi = x))) := by
  rw [hvB, take_snoc h, List.any_append]; simp [hvB]
theorem in_snoc (g : Gr) (i : Nat) {m : List Sg} {k : Nat} {s : Sg} (h : m[k]? = some s) : (m.take (k + 1)).countP (inC g i) = (m.take k).countP (inC g i) + if inC g i s = true then 1 else 0 := by
  rw [take_snoc h, List.countP_append]; simp
structure CellOk (g : Gr) (l : List Sg) (i : Nat) (L C : Int) : Prop where
  top : ∀ s ∈ l, cellI g s = (i : Int) → s.hi ≤ L
  yes : hvB g i L l = decide (L ≠ 30000)
  num : hvB g i L l = decide (C > 0)
  cnt : C = ((l.countP (inC g i) : Nat) : Int)
theorem cell_ok {g : Gr} {l : List Sg} (hb : badS g hiV l = false) {i : Nat} (hi : i < cellsN g) : CellOk g l i ((maxO g hiV l (i : Int)).getD 30000) ((l.countP (inC g i) : Nat) : Int) := by
  have hb2 : badO (maxO g hiV l (i : Int)) = false := by
    rw [badS, List.any_eq_false] at hb
    have := hb i (List.mem_range.2 hi)
    simpa using this
  cases hm : maxO g hiV l (i : Int) with
  | none =>
    have h := mx_none hm
    have h1 : hvB g i 30000 l = false := by
      rw [hvB, List.any_eq_false]; intro s hs; have := h s hs; simp [inC, this]
    have h2 : l.countP (inC g i) = 0 := by
      rw [List.countP_eq_zero]; intro s hs; have := h s hs; simp [inC, this]
    exact ⟨fun s hs hc => absurd hc (h s hs), by simp [h1], by simp [h1, h2], rfl⟩
  | some x =>
    obtain ⟨⟨s, hs, h1, h2⟩, h3⟩ := mx_some hm
    rw [hm] at hb2
    have hx : x ≠ 30000 := by
      rintro rfl
      have : outsideB 30000 (-20000) 20000 = true := by decide
      rw [badO, this] at hb2; cases hb2
    have e1 : hvB g i x l = true := List.any_eq_true.2 ⟨s, hs, by simp [inC, h1]; exact h2⟩
    have e2 : 0 < l.countP (inC g i) := List.countP_pos_iff.2 ⟨s, hs, by simp [inC, h1]⟩
    refine ⟨h3, ?_, ?_, rfl⟩
    · show hvB g i x l = decide (x ≠ 30000)
      rw [e1]; simp [hx]
    · show hvB g i x l = _
      rw [e1]; exact (decide_eq_true (by omega)).symm
theorem chk_part {l m : List Sg} (h : chkErr sgB Sg.n l = 0) (hs : m.Sublist l) : chkErr sgB Sg.n m = 0 := by
  obtain ⟨h1, h2, h3⟩ := chk_zero h
  exact chk_of (by have := hs.length_le; omega) (fun x hx => h2 x (hs.subset hx)) (h3.sublist hs)
theorem bin_ok {g : Gr} {l : List Sg} (c0 : chkErr sgB Sg.n l = 0) (f0 : frErr g = 0) : binRes g hiV l = if badS g hiV l = true then (gr0, 2) else ({ g with lv := levS g hiV l }, 0) := by
  rw [binRes, if_neg (by simpa using c0), if_neg (by simpa using f0)]
theorem bin_in {g : Gr} {l : List Sg} (h : (binRes g hiV l).2 = 0) : chkErr sgB Sg.n l = 0 ∧ frErr g = 0 ∧ badS g hiV l = false ∧ binRes g hiV l = ({ g with lv := levS g hiV l }, 0) := by
  unfold binRes at h
  split at h
  · contradiction
  · rename_i h1
    split at h
    · contradiction
    · rename_i h2
      have c0 : chkErr sgB Sg.n l = 0 := by simpa using h1
      have f0 : frErr g = 0 := by simpa using h2
      split at h
      · cases h
      · rename_i h3
        rw [bin_ok c0 f0, if_neg h3]
        exact ⟨c0, f0, by simpa using h3, rfl⟩
theorem joinI {x y : Option Int} (hx : badO x = false) (hy : badO y = false) : (combO x y).getD 30000 = (if x.getD 30000 = 30000 ∨ y.getD 30000 = 30000 then minI (x.getD 30000) (y.getD 30000) else maxI (x.getD 30000) (y.getD 30000)) := by
  have h : ∀ z, badO (some z) = false → z ≤ 20000 := by intro z hz; simp [badO, outsideB] at hz; omega
  cases x <;> cases y
  · simp [combO, minI]
  · rename_i y
    have := h y hy
    simp only [combO, Option.getD_none, Option.getD_some, true_or, if_true, minI]
    rw [if_pos (by omega)]
  · rename_i x
    have := h x hx
    simp only [combO, Option.getD_none, Option.getD_some, or_true, if_true, minI]
    rw [if_neg (by omega)]
  · rename_i x y
    have := h x hx
    have := h y hy
    simp only [combO, Option.getD_some]
    rw [if_neg (by omega)]
theorem ev_SoundingHighest (l : List Sg) (g : Gr) (n : Int) : Ev Tryz.prog 13 [.sl 5 (l.map sgD), grD g, iD n] (.bool true) := by
  have hlen : (l.map sgD).length = l.length := List.length_map _
  have h0 := ev_long l
  have hw := ev_wide g
  have h7 := ev_awake3
  generalize longB l.length = b at *
  generalize wideB g = w at *
  cases b with
  | true =>
    refine ev_of_awp tysOk mixed (fn := Tryz.f13) Tryz.func13 rfl rfl rfl ?_
    conv => whnf
    repeat' (first
      | ((with_reducible refine Split.of_true ?_); conv => whnf)
      | ((with_reducible refine Split.of_false ?_); conv => whnf)
      | ((with_reducible refine Split.neg ?_))
      | ((with_reducible refine Split.is_true ?_ ?_); decide; conv => whnf)
      | ((with_reducible refine Split.is_false ?_ ?_); decide; conv => whnf)
      | ((with_reducible refine Split.nez (fun _ => ?_) (fun _ => ?_)) <;> conv => whnf)
      | ((with_reducible refine Split.eqz (fun _ => ?_) (fun _ => ?_)) <;> conv => whnf)
      | ((with_reducible refine Split.and ?_))
      | ((with_reducible refine Split.or ?_))
      | ((with_reducible refine Split.streq (fun _ => ?_) (fun _ => ?_)) <;> conv => whnf)
      | ((with_reducible refine Split.dec (fun _ => ?_) (fun _ => ?_)) <;> conv => whnf)
      | ((with_reducible refine Split.mk (fun _ => ?_) (fun _ => ?_)) <;> conv => whnf)
      | ((with_reducible refine NilK.mk (fun _ => ?_) ?_) <;> conv => whnf)
      | ((with_reducible refine AltK.l ?_); (conv => whnf); (with_reducible refine Need.mk ?_ ?_); (first | omega | (refine ⟨?_, ?_⟩ <;> simp <;> omega) | (simp; omega)); conv => whnf)
      | ((with_reducible refine Need.mk ?_ ?_); (first | omega | rfl | decide | (refine ⟨?_, ?_⟩ <;> simp <;> omega) | (simp; omega)); conv => whnf)
      | ((with_reducible refine Wr.quo ?_ ?_ ?_ ?_); omega; omega; omega; conv => whnf)
      | ((with_reducible refine Wr.inr ?_ ?_); (first | omega | (simp; omega)); conv => whnf)
      | ((with_reducible refine Wr.inu ?_ ?_); omega; conv => whnf)
      | ((with_reducible refine AltK.l ?_); (conv => whnf); (first | (refine CallK.mk _ (h0) ?_) | (refine CallK.mk _ (hw) ?_) | (refine CallK.mk _ (h7) ?_)); conv => whnf)
      | (exfalso; first | omega | contradiction))
    all_goals rfl
  | false =>
  cases w with
  | true =>
    refine ev_of_awp tysOk mixed (fn := Tryz.f13) Tryz.func13 rfl rfl rfl ?_
    conv => whnf
    repeat' (first
      | ((with_reducible refine Split.of_true ?_); conv => whnf)
      | ((with_reducible refine Split.of_false ?_); conv => whnf)
      | ((with_reducible refine Split.neg ?_))
      | ((with_reducible refine Split.is_true ?_ ?_); decide; conv => whnf)
      | ((with_reducible refine Split.is_false ?_ ?_); decide; conv => whnf)
      | ((with_reducible refine Split.nez (fun _ => ?_) (fun _ => ?_)) <;> conv => whnf)
      | ((with_reducible refine Split.eqz (fun _ => ?_) (fun _ => ?_)) <;> conv => whnf)
      | ((with_reducible refine Split.and ?_))
      | ((with_reducible refine Split.or ?_))
      | ((with_reducible refine Split.streq (fun _ => ?_) (fun _ => ?_)) <;> conv => whnf)
      | ((with_reducible refine Split.dec (fun _ => ?_) (fun _ => ?_)) <;> conv => whnf)
      | ((with_reducible refine Split.mk (fun _ => ?_) (fun _ => ?_)) <;> conv => whnf)
      | ((with_reducible refine NilK.mk (fun _ => ?_) ?_) <;> conv => whnf)
      | ((with_reducible refine AltK.l ?_); (conv => whnf); (with_reducible refine Need.mk ?_ ?_); (first | omega | (refine ⟨?_, ?_⟩ <;> simp <;> omega) | (simp; omega)); conv => whnf)
      | ((with_reducible refine Need.mk ?_ ?_); (first | omega | rfl | decide | (refine ⟨?_, ?_⟩ <;> simp <;> omega) | (simp; omega)); conv => whnf)
      | ((with_reducible refine Wr.quo ?_ ?_ ?_ ?_); omega; omega; omega; conv => whnf)
      | ((with_reducible refine Wr.inr ?_ ?_); (first | omega | (simp; omega)); conv => whnf)
      | ((with_reducible refine Wr.inu ?_ ?_); omega; conv => whnf)
      | ((with_reducible refine AltK.l ?_); (conv => whnf); (first | (refine CallK.mk _ (h0) ?_) | (refine CallK.mk _ (hw) ?_) | (refine CallK.mk _ (h7) ?_)); conv => whnf)
      | (exfalso; first | omega | contradiction))
    all_goals rfl
  | false =>
    have h1 := ev_BinS l g
    have h2 := ev_Count l g
    by_cases hz : (binRes g hiV l).2 = 0
    · obtain ⟨c0, f0, hb, e⟩ := bin_in hz
      have hF := fr_ok f0
      have hal := hF.all
      obtain ⟨hl5, hall, hu⟩ := chk_zero c0
      rw [e] at h1
      have e2 : cntRes g l = (cnS g l, 0) := by rw [cntRes, if_neg (by simpa using c0), if_neg (by simpa using f0)]
      rw [e2] at h2
      replace h1 : Ev Tryz.prog 54 [.sl 5 (l.map sgD), grD g] (.tup [.agg [iD g.x, iD g.y, iD g.side, iD g.cols, iD g.rows, .sl 1 ((levS g hiV l).map iD)], iD 0]) := h1
      replace h2 : Ev Tryz.prog 55 [.sl 5 (l.map sgD), grD g] (.tup [.sl 1 ((cnS g l).map iD), iD 0]) := h2
      have hNN : (cellsN g : Int) = g.cols * g.rows := by unfold cellsN; omega
      have hLl : ((levS g hiV l).map iD).length = cellsN g := by rw [List.length_map, lev_len]
      have hCl : ((cnS g l).map iD).length = cellsN g := by rw [List.length_map, cn_len]
      have hnm := ev_ModB n (l.length + 1) (by omega)
      rw [← hlen] at hnm
      have q1 := Int.emod_nonneg n (show ((l.map sgD).length : Int) + 1 ≠ 0 by omega)
      have q2 := Int.emod_lt_of_pos n (show 0 < ((l.map sgD).length : Int) + 1 by omega)
      generalize n % (((l.map sgD).length : Int) + 1) = at' at *
      have t1 : ((l.map sgD).take at'.toNat).drop (Int.toNat 0) = (l.take at'.toNat).map sgD := by rw [← List.map_take]; rfl
      have t2 : ((l.map sgD).take ((l.map sgD).length : Int).toNat).drop at'.toNat = (l.drop at'.toNat).map sgD := by rw [Int.toNat_natCast, List.take_length, List.map_drop]
      have h3 := ev_BinS (l.take at'.toNat) g
      have h4 := ev_BinS (l.drop at'.toNat) g
      rw [← t1] at h3
      rw [← t2] at h4
      refine ev_of_awp tysOk mixed (fn := Tryz.f13) Tryz.func13 rfl rfl rfl ?_
      conv => whnf
      repeat' (first
        | ((with_reducible refine Split.of_true ?_); conv => whnf)
        | ((with_reducible refine Split.of_false ?_); conv => whnf)
        | ((with_reducible refine Split.neg ?_))
        | ((with_reducible refine Split.is_true ?_ ?_); decide; conv => whnf)
        | ((with_reducible refine Split.is_false ?_ ?_); decide; conv => whnf)
        | ((with_reducible refine Split.nez (fun _ => ?_) (fun _ => ?_)) <;> conv => whnf)
        | ((with_reducible refine Split.eqz (fun _ => ?_) (fun _ => ?_)) <;> conv => whnf)
        | ((with_reducible refine Split.and ?_))
        | ((with_reducible refine Split.or ?_))
        | ((with_reducible refine Split.streq (fun _ => ?_) (fun _ => ?_)) <;> conv => whnf)
        | ((with_reducible refine Split.dec (fun _ => ?_) (fun _ => ?_)) <;> conv => whnf)
        | ((with_reducible refine Split.mk (fun _ => ?_) (fun _ => ?_)) <;> conv => whnf)
        | ((with_reducible refine NilK.mk (fun _ => ?_) ?_) <;> conv => whnf)
        | ((with_reducible refine AltK.l ?_); (conv => whnf); (with_reducible refine Need.mk ?_ ?_); (first | omega | (refine ⟨?_, ?_⟩ <;> simp <;> omega) | (simp; omega)); conv => whnf)
        | ((with_reducible refine Need.mk ?_ ?_); (first | omega | rfl | decide | (refine ⟨?_, ?_⟩ <;> simp <;> omega) | (simp; omega)); conv => whnf)
        | ((with_reducible refine Wr.quo ?_ ?_ ?_ ?_); omega; omega; omega; conv => whnf)
        | ((with_reducible refine Wr.inr ?_ ?_); (first | omega | (simp; omega)); conv => whnf)
        | ((with_reducible refine Wr.inu ?_ ?_); omega; conv => whnf)
        | ((with_reducible refine AltK.l ?_); (conv => whnf); (first | (refine CallK.mk _ (h0) ?_) | (refine CallK.mk _ (hw) ?_) | (refine CallK.mk _ (h1) ?_) | (refine CallK.mk _ (h2) ?_)); conv => whnf)
        | (exfalso; first | omega | contradiction))
      refine LoopK.o2 (fun i : Nat => i ≤ cellsN g) (fun i => [(11, .d (.int .i64 0)), (12, .d (.int .i64 i))]) (fun _ => []) (fun i => cellsN g - i) 0 (by simp) (by refine ⟨?_, ?_, rfl⟩ <;> (repeat' (first | exact True.intro | exact rfl | refine ⟨?_, ?_⟩ | (intro h; cases h; done) | (intro h; exact h) | exact map_snoc | (refine own_congr ?_; simp; done) | (refine int_congr ?_; (first | omega | (simp; omega))) | (simp; done)))) ?_
      rintro i hi
      by_cases hiN : i < cellsN g
      · have hL := lev_get (g := g) (v := hiV) (l := l) hiN
        have hC := cn_get hF hiN l
        have hK := cell_ok hb hiN
        generalize (maxO g hiV l (i : Int)).getD 30000 = L at *
        generalize hcn : ((l.countP (inC g i) : Nat) : Int) = C at *
        obtain ⟨k1, k2, k3, k4⟩ := hK
        conv => whnf
        repeat' (first
          | ((with_reducible refine Split.of_true ?_); conv => whnf)
          | ((with_reducible refine Split.of_false ?_); conv => whnf)
          | ((with_reducible refine Split.neg ?_))
          | ((with_reducible refine Split.is_true ?_ ?_); decide; conv => whnf)
          | ((with_reducible refine Split.is_false ?_ ?_); decide; conv => whnf)
          | ((with_reducible refine Split.nez (fun _ => ?_) (fun _ => ?_)) <;> conv => whnf)
          | ((with_reducible refine Split.eqz (fun _ => ?_) (fun _ => ?_)) <;> conv => whnf)
          | ((with_reducible refine Split.and ?_))
          | ((with_reducible refine Split.or ?_))
          | ((with_reducible refine Split.streq (fun _ => ?_) (fun _ => ?_)) <;> conv => whnf)
          | ((with_reducible refine Split.dec (fun _ => ?_) (fun _ => ?_)) <;> conv => whnf)
          | ((with_reducible refine Split.mk (fun _ => ?_) (fun _ => ?_)) <;> conv => whnf)
          | ((with_reducible refine NilK.mk (fun _ => ?_) ?_) <;> conv => whnf)
          | ((with_reducible refine AltK.l ?_); (conv => whnf); (with_reducible refine Need.mk ?_ ?_); (first | omega | (refine ⟨?_, ?_⟩ <;> simp <;> omega) | (simp; omega)); conv => whnf)
          | ((with_reducible refine Need.mk ?_ ?_); (first | omega | rfl | decide | (refine ⟨?_, ?_⟩ <;> simp <;> omega) | (simp; omega)); conv => whnf)
          | ((with_reducible refine Wr.quo ?_ ?_ ?_ ?_); omega; omega; omega; conv => whnf)
          | ((with_reducible refine Wr.inr ?_ ?_); (first | omega | (simp; omega)); conv => whnf)
          | ((with_reducible refine Wr.inu ?_ ?_); omega; conv => whnf)
          | (exfalso; first | omega | contradiction))
        refine LoopK.o2 (fun k : Nat => k ≤ l.length) (fun k => [(11, .d (.int .i64 ((l.take k).countP (inC g i) : Nat))), (13, .d (.bool (hvB g i L (l.take k)))), (14, .d (.int .i64 k))]) (fun _ => []) (fun k => l.length - k) 0 (by simp) (by refine ⟨?_, ?_, rfl⟩ <;> (repeat' (first | exact True.intro | exact rfl | refine ⟨?_, ?_⟩ | (intro h; cases h; done) | (intro h; exact h) | exact map_snoc | (refine own_congr ?_; simp; done) | (refine int_congr ?_; (first | omega | (simp; omega))) | (simp; done)))) ?_
        rintro k hk
        have hcl := List.countP_le_length (p := inC g i) (l := l.take k)
        rw [List.length_take] at hcl
        by_cases hkl : k < l.length
        · obtain ⟨s, hs⟩ := some_of_lt hkl
          have hsl := List.mem_of_getElem? hs
          have s1 := in_snoc g i hs
          have s2 := hv_snoc g i L hs
          have h5 := ev_Cell g s.x s.y hF (sg_place (hall s hsl))
          rw [cell_xy] at h5
          have k1s := k1 s hsl
          by_cases hc : cellI g s = (i : Int)
          · have hic : inC g i s = true := by simp [inC, hc]
            rw [hic, if_pos rfl] at s1
            rw [hic, Bool.true_and] at s2
            rw [hc] at h5
            have k1s := k1s hc
            cases hv : hvB g i L (l.take k) with
            | true =>
              rw [hv, Bool.true_or] at s2
              have hmp1 : AV.d (D.bool true) = AV.d (D.bool (hvB g i L (l.take (k + 1)))) := by rw [s2]
              conv => whnf
              repeat' (first
                | ((refine PickE.map i hL (by omega) ?_); conv => whnf)
                | ((refine PickE.map k hs (by omega) ?_); conv => whnf)
                | ((with_reducible refine Split.of_true ?_); conv => whnf)
                | ((with_reducible refine Split.of_false ?_); conv => whnf)
                | ((with_reducible refine Split.neg ?_))
                | ((with_reducible refine Split.is_true ?_ ?_); decide; conv => whnf)
                | ((with_reducible refine Split.is_false ?_ ?_); decide; conv => whnf)
                | ((with_reducible refine Split.nez (fun _ => ?_) (fun _ => ?_)) <;> conv => whnf)
                | ((with_reducible refine Split.eqz (fun _ => ?_) (fun _ => ?_)) <;> conv => whnf)
                | ((with_reducible refine Split.and ?_))
                | ((with_reducible refine Split.or ?_))
                | ((with_reducible refine Split.streq (fun _ => ?_) (fun _ => ?_)) <;> conv => whnf)
                | ((with_reducible refine Split.dec (fun _ => ?_) (fun _ => ?_)) <;> conv => whnf)
                | ((with_reducible refine Split.mk (fun _ => ?_) (fun _ => ?_)) <;> conv => whnf)
                | ((with_reducible refine NilK.mk (fun _ => ?_) ?_) <;> conv => whnf)
                | ((with_reducible refine AltK.l ?_); (conv => whnf); (with_reducible refine Need.mk ?_ ?_); (first | omega | (refine ⟨?_, ?_⟩ <;> simp <;> omega) | (simp; omega)); conv => whnf)
                | ((with_reducible refine Need.mk ?_ ?_); (first | omega | rfl | decide | (refine ⟨?_, ?_⟩ <;> simp <;> omega) | (simp; omega)); conv => whnf)
                | ((with_reducible refine Wr.quo ?_ ?_ ?_ ?_); omega; omega; omega; conv => whnf)
                | ((with_reducible refine Wr.inr ?_ ?_); (first | omega | (simp; omega)); conv => whnf)
                | ((with_reducible refine Wr.inu ?_ ?_); omega; conv => whnf)
                | ((with_reducible refine AltK.l ?_); (conv => whnf); (first | (refine CallK.mk _ (h5) ?_)); conv => whnf)
                | (exfalso; first | omega | contradiction))
              exact Again.au (k + 1) (by omega) (by omega) (by refine ⟨?_, ?_, rfl⟩ <;> (repeat' (first | exact True.intro | exact rfl | refine ⟨?_, ?_⟩ | (intro h; cases h; done) | (intro h; exact h) | exact map_snoc | (refine own_congr ?_; simp; done) | (refine int_congr ?_; (first | omega | (simp; omega))) | (simp; done) | exact hmp1 | ((first | refine own_congr ?_ | refine int_congr ?_ | skip); simp [s1]; done) | ((first | refine own_congr ?_ | refine int_congr ?_); simp [s1]; omega) | (show @Eq (List Go.Vm.D) _ []; simp [s1]; done) | (simp [D.cells, s1]; done))))
            | false =>
              rw [hv, Bool.false_or] at s2
              have hmp1 : AV.d (D.bool (s.hi == L)) = AV.d (D.bool (hvB g i L (l.take (k + 1)))) := by rw [s2]; rfl
              conv => whnf
              repeat' (first
                | ((refine PickE.map i hL (by omega) ?_); conv => whnf)
                | ((refine PickE.map k hs (by omega) ?_); conv => whnf)
                | ((with_reducible refine Split.of_true ?_); conv => whnf)
                | ((with_reducible refine Split.of_false ?_); conv => whnf)
                | ((with_reducible refine Split.neg ?_))
                | ((with_reducible refine Split.is_true ?_ ?_); decide; conv => whnf)
                | ((with_reducible refine Split.is_false ?_ ?_); decide; conv => whnf)
                | ((with_reducible refine Split.nez (fun _ => ?_) (fun _ => ?_)) <;> conv => whnf)
                | ((with_reducible refine Split.eqz (fun _ => ?_) (fun _ => ?_)) <;> conv => whnf)
                | ((with_reducible refine Split.and ?_))
                | ((with_reducible refine Split.or ?_))
                | ((with_reducible refine Split.streq (fun _ => ?_) (fun _ => ?_)) <;> conv => whnf)
                | ((with_reducible refine Split.dec (fun _ => ?_) (fun _ => ?_)) <;> conv => whnf)
                | ((with_reducible refine Split.mk (fun _ => ?_) (fun _ => ?_)) <;> conv => whnf)
                | ((with_reducible refine NilK.mk (fun _ => ?_) ?_) <;> conv => whnf)
                | ((with_reducible refine AltK.l ?_); (conv => whnf); (with_reducible refine Need.mk ?_ ?_); (first | omega | (refine ⟨?_, ?_⟩ <;> simp <;> omega) | (simp; omega)); conv => whnf)
                | ((with_reducible refine Need.mk ?_ ?_); (first | omega | rfl | decide | (refine ⟨?_, ?_⟩ <;> simp <;> omega) | (simp; omega)); conv => whnf)
                | ((with_reducible refine Wr.quo ?_ ?_ ?_ ?_); omega; omega; omega; conv => whnf)
                | ((with_reducible refine Wr.inr ?_ ?_); (first | omega | (simp; omega)); conv => whnf)
                | ((with_reducible refine Wr.inu ?_ ?_); omega; conv => whnf)
                | ((with_reducible refine AltK.l ?_); (conv => whnf); (first | (refine CallK.mk _ (h5) ?_)); conv => whnf)
                | (exfalso; first | omega | contradiction))
              exact Again.au (k + 1) (by omega) (by omega) (by refine ⟨?_, ?_, rfl⟩ <;> (repeat' (first | exact True.intro | exact rfl | refine ⟨?_, ?_⟩ | (intro h; cases h; done) | (intro h; exact h) | exact map_snoc | (refine own_congr ?_; simp; done) | (refine int_congr ?_; (first | omega | (simp; omega))) | (simp; done) | exact hmp1 | ((first | refine own_congr ?_ | refine int_congr ?_ | skip); simp [s1]; done) | ((first | refine own_congr ?_ | refine int_congr ?_); simp [s1]; omega) | (show @Eq (List Go.Vm.D) _ []; simp [s1]; done) | (simp [D.cells, s1]; done))))
          · have hic : inC g i s = false := by simp [inC, hc]
            rw [hic, if_neg (by decide)] at s1
            rw [hic, Bool.false_and, Bool.or_false] at s2
            have hmp1 : AV.d (D.bool (hvB g i L (l.take k))) = AV.d (D.bool (hvB g i L (l.take (k + 1)))) := by rw [s2]
            conv => whnf
            repeat' (first
              | ((refine PickE.map k hs (by omega) ?_); conv => whnf)
              | ((with_reducible refine Split.of_true ?_); conv => whnf)
              | ((with_reducible refine Split.of_false ?_); conv => whnf)
              | ((with_reducible refine Split.neg ?_))
              | ((with_reducible refine Split.is_true ?_ ?_); decide; conv => whnf)
              | ((with_reducible refine Split.is_false ?_ ?_); decide; conv => whnf)
              | ((with_reducible refine Split.nez (fun _ => ?_) (fun _ => ?_)) <;> conv => whnf)
              | ((with_reducible refine Split.eqz (fun _ => ?_) (fun _ => ?_)) <;> conv => whnf)
              | ((with_reducible refine Split.and ?_))
              | ((with_reducible refine Split.or ?_))
              | ((with_reducible refine Split.streq (fun _ => ?_) (fun _ => ?_)) <;> conv => whnf)
              | ((with_reducible refine Split.dec (fun _ => ?_) (fun _ => ?_)) <;> conv => whnf)
              | ((with_reducible refine Split.mk (fun _ => ?_) (fun _ => ?_)) <;> conv => whnf)
              | ((with_reducible refine NilK.mk (fun _ => ?_) ?_) <;> conv => whnf)
              | ((with_reducible refine AltK.l ?_); (conv => whnf); (with_reducible refine Need.mk ?_ ?_); (first | omega | (refine ⟨?_, ?_⟩ <;> simp <;> omega) | (simp; omega)); conv => whnf)
              | ((with_reducible refine Need.mk ?_ ?_); (first | omega | rfl | decide | (refine ⟨?_, ?_⟩ <;> simp <;> omega) | (simp; omega)); conv => whnf)
              | ((with_reducible refine Wr.quo ?_ ?_ ?_ ?_); omega; omega; omega; conv => whnf)
              | ((with_reducible refine Wr.inr ?_ ?_); (first | omega | (simp; omega)); conv => whnf)
              | ((with_reducible refine Wr.inu ?_ ?_); omega; conv => whnf)
              | ((with_reducible refine AltK.l ?_); (conv => whnf); (first | (refine CallK.mk _ (h5) ?_)); conv => whnf)
              | (exfalso; first | omega | contradiction))
            exact Again.au (k + 1) (by omega) (by omega) (by refine ⟨?_, ?_, rfl⟩ <;> (repeat' (first | exact True.intro | exact rfl | refine ⟨?_, ?_⟩ | (intro h; cases h; done) | (intro h; exact h) | exact map_snoc | (refine own_congr ?_; simp; done) | (refine int_congr ?_; (first | omega | (simp; omega))) | (simp; done) | exact hmp1 | ((first | refine own_congr ?_ | refine int_congr ?_ | skip); simp [s1]; done) | ((first | refine own_congr ?_ | refine int_congr ?_); simp [s1]; omega) | (show @Eq (List Go.Vm.D) _ []; simp [s1]; done) | (simp [D.cells, s1]; done))))
        · rw [List.take_of_length_le (show l.length ≤ k by omega)] at hcl ⊢
          rw [hcn]
          cases hv : hvB g i L l with
          | true =>
            rw [hv] at k2 k3
            have k2 := of_decide_eq_true k2.symm
            have k3 := of_decide_eq_true k3.symm
            conv => whnf
            repeat' (first
              | ((refine PickE.map i hC (by omega) ?_); conv => whnf)
              | ((refine PickE.map i hL (by omega) ?_); conv => whnf)
              | ((with_reducible refine Split.of_true ?_); conv => whnf)
              | ((with_reducible refine Split.of_false ?_); conv => whnf)
              | ((with_reducible refine Split.neg ?_))
              | ((with_reducible refine Split.is_true ?_ ?_); decide; conv => whnf)
              | ((with_reducible refine Split.is_false ?_ ?_); decide; conv => whnf)
              | ((with_reducible refine Split.nez (fun _ => ?_) (fun _ => ?_)) <;> conv => whnf)
              | ((with_reducible refine Split.eqz (fun _ => ?_) (fun _ => ?_)) <;> conv => whnf)
              | ((with_reducible refine Split.and ?_))
              | ((with_reducible refine Split.or ?_))
              | ((with_reducible refine Split.streq (fun _ => ?_) (fun _ => ?_)) <;> conv => whnf)
              | ((with_reducible refine Split.dec (fun _ => ?_) (fun _ => ?_)) <;> conv => whnf)
              | ((with_reducible refine Split.mk (fun _ => ?_) (fun _ => ?_)) <;> conv => whnf)
              | ((with_reducible refine NilK.mk (fun _ => ?_) ?_) <;> conv => whnf)
              | ((with_reducible refine AltK.l ?_); (conv => whnf); (with_reducible refine Need.mk ?_ ?_); (first | omega | (refine ⟨?_, ?_⟩ <;> simp <;> omega) | (simp; omega)); conv => whnf)
              | ((with_reducible refine Need.mk ?_ ?_); (first | omega | rfl | decide | (refine ⟨?_, ?_⟩ <;> simp <;> omega) | (simp; omega)); conv => whnf)
              | ((with_reducible refine Wr.quo ?_ ?_ ?_ ?_); omega; omega; omega; conv => whnf)
              | ((with_reducible refine Wr.inr ?_ ?_); (first | omega | (simp; omega)); conv => whnf)
              | ((with_reducible refine Wr.inu ?_ ?_); omega; conv => whnf)
              | (exfalso; first | omega | contradiction))
            all_goals first
              | exact Again.au (i + 1) (by omega) (by omega) (by refine ⟨?_, ?_, rfl⟩ <;> (repeat' (first | exact True.intro | exact rfl | refine ⟨?_, ?_⟩ | (intro h; cases h; done) | (intro h; exact h) | exact map_snoc | (refine own_congr ?_; simp; done) | (refine int_congr ?_; (first | omega | (simp; omega))) | (simp; done))))
              | (rename_i hz; simp at hz; omega)
          | false =>
            rw [hv] at k2 k3
            have k2 := of_decide_eq_false k2.symm
            have k3 := of_decide_eq_false k3.symm
            conv => whnf
            repeat' (first
              | ((refine PickE.map i hC (by omega) ?_); conv => whnf)
              | ((refine PickE.map i hL (by omega) ?_); conv => whnf)
              | ((with_reducible refine Split.of_true ?_); conv => whnf)
              | ((with_reducible refine Split.of_false ?_); conv => whnf)
              | ((with_reducible refine Split.neg ?_))
              | ((with_reducible refine Split.is_true ?_ ?_); decide; conv => whnf)
              | ((with_reducible refine Split.is_false ?_ ?_); decide; conv => whnf)
              | ((with_reducible refine Split.nez (fun _ => ?_) (fun _ => ?_)) <;> conv => whnf)
              | ((with_reducible refine Split.eqz (fun _ => ?_) (fun _ => ?_)) <;> conv => whnf)
              | ((with_reducible refine Split.and ?_))
              | ((with_reducible refine Split.or ?_))
              | ((with_reducible refine Split.streq (fun _ => ?_) (fun _ => ?_)) <;> conv => whnf)
              | ((with_reducible refine Split.dec (fun _ => ?_) (fun _ => ?_)) <;> conv => whnf)
              | ((with_reducible refine Split.mk (fun _ => ?_) (fun _ => ?_)) <;> conv => whnf)
              | ((with_reducible refine NilK.mk (fun _ => ?_) ?_) <;> conv => whnf)
              | ((with_reducible refine AltK.l ?_); (conv => whnf); (with_reducible refine Need.mk ?_ ?_); (first | omega | (refine ⟨?_, ?_⟩ <;> simp <;> omega) | (simp; omega)); conv => whnf)
              | ((with_reducible refine Need.mk ?_ ?_); (first | omega | rfl | decide | (refine ⟨?_, ?_⟩ <;> simp <;> omega) | (simp; omega)); conv => whnf)
              | ((with_reducible refine Wr.quo ?_ ?_ ?_ ?_); omega; omega; omega; conv => whnf)
              | ((with_reducible refine Wr.inr ?_ ?_); (first | omega | (simp; omega)); conv => whnf)
              | ((with_reducible refine Wr.inu ?_ ?_); omega; conv => whnf)
              | (exfalso; first | omega | contradiction))
            all_goals first
              | exact Again.au (i + 1) (by omega) (by omega) (by refine ⟨?_, ?_, rfl⟩ <;> (repeat' (first | exact True.intro | exact rfl | refine ⟨?_, ?_⟩ | (intro h; cases h; done) | (intro h; exact h) | exact map_snoc | (refine own_congr ?_; simp; done) | (refine int_congr ?_; (first | omega | (simp; omega))) | (simp; done))))
              | (rename_i hz; simp at hz; omega)
      · have x1 := bin_ok (g := g) (chk_part c0 (List.take_sublist at'.toNat l)) f0
        have x2 := bin_ok (g := g) (chk_part c0 (List.drop_sublist at'.toNat l)) f0
        have xa : ∀ i, maxO g hiV l i = combO (maxO g hiV (l.take at'.toNat) i) (maxO g hiV (l.drop at'.toNat) i) := fun i => by
          rw [← mx_app, List.take_append_drop]
        have hbo : ∀ (m : List Sg), badS g hiV m = false → ∀ i, i < cellsN g → badO (maxO g hiV m (i : Int)) = false := fun m hm i hi => by
          rw [badS, List.any_eq_false] at hm
          simpa using hm i (List.mem_range.2 hi)
        rw [x1] at h3
        rw [x2] at h4
        generalize l.take at'.toNat = A at *
        generalize l.drop at'.toNat = B at *
        cases y1 : badS g hiV A with
        | true =>
          rw [y1, if_pos rfl] at h3
          cases y2 : badS g hiV B with
          | true =>
            rw [y2, if_pos rfl] at h4
            conv => whnf
            repeat' (first
              | ((with_reducible refine Split.of_true ?_); conv => whnf)
              | ((with_reducible refine Split.of_false ?_); conv => whnf)
              | ((with_reducible refine Split.neg ?_))
              | ((with_reducible refine Split.is_true ?_ ?_); decide; conv => whnf)
              | ((with_reducible refine Split.is_false ?_ ?_); decide; conv => whnf)
              | ((with_reducible refine Split.nez (fun _ => ?_) (fun _ => ?_)) <;> conv => whnf)
              | ((with_reducible refine Split.eqz (fun _ => ?_) (fun _ => ?_)) <;> conv => whnf)
              | ((with_reducible refine Split.and ?_))
              | ((with_reducible refine Split.or ?_))
              | ((with_reducible refine Split.streq (fun _ => ?_) (fun _ => ?_)) <;> conv => whnf)
              | ((with_reducible refine Split.dec (fun _ => ?_) (fun _ => ?_)) <;> conv => whnf)
              | ((with_reducible refine Split.mk (fun _ => ?_) (fun _ => ?_)) <;> conv => whnf)
              | ((with_reducible refine NilK.mk (fun _ => ?_) ?_) <;> conv => whnf)
              | ((with_reducible refine AltK.l ?_); (conv => whnf); (with_reducible refine Need.mk ?_ ?_); (first | omega | (refine ⟨?_, ?_⟩ <;> simp <;> omega) | (simp; omega)); conv => whnf)
              | ((with_reducible refine Need.mk ?_ ?_); (first | omega | rfl | decide | (refine ⟨?_, ?_⟩ <;> simp <;> omega) | (simp; omega)); conv => whnf)
              | ((with_reducible refine Wr.quo ?_ ?_ ?_ ?_); omega; omega; omega; conv => whnf)
              | ((with_reducible refine Wr.inr ?_ ?_); (first | omega | (simp; omega)); conv => whnf)
              | ((with_reducible refine Wr.inu ?_ ?_); omega; conv => whnf)
              | ((with_reducible refine AltK.l ?_); (conv => whnf); (first | (refine CallK.mk _ (hnm) ?_) | (refine CallK.mk _ (h3) ?_) | (refine CallK.mk _ (h4) ?_) | (refine CallK.mk _ (h7) ?_)); conv => whnf)
              | (exfalso; first | omega | contradiction))
            all_goals rfl
          | false =>
            rw [y2, if_neg (by decide)] at h4
            conv => whnf
            repeat' (first
              | ((with_reducible refine Split.of_true ?_); conv => whnf)
              | ((with_reducible refine Split.of_false ?_); conv => whnf)
              | ((with_reducible refine Split.neg ?_))
              | ((with_reducible refine Split.is_true ?_ ?_); decide; conv => whnf)
              | ((with_reducible refine Split.is_false ?_ ?_); decide; conv => whnf)
              | ((with_reducible refine Split.nez (fun _ => ?_) (fun _ => ?_)) <;> conv => whnf)
              | ((with_reducible refine Split.eqz (fun _ => ?_) (fun _ => ?_)) <;> conv => whnf)
              | ((with_reducible refine Split.and ?_))
              | ((with_reducible refine Split.or ?_))
              | ((with_reducible refine Split.streq (fun _ => ?_) (fun _ => ?_)) <;> conv => whnf)
              | ((with_reducible refine Split.dec (fun _ => ?_) (fun _ => ?_)) <;> conv => whnf)
              | ((with_reducible refine Split.mk (fun _ => ?_) (fun _ => ?_)) <;> conv => whnf)
              | ((with_reducible refine NilK.mk (fun _ => ?_) ?_) <;> conv => whnf)
              | ((with_reducible refine AltK.l ?_); (conv => whnf); (with_reducible refine Need.mk ?_ ?_); (first | omega | (refine ⟨?_, ?_⟩ <;> simp <;> omega) | (simp; omega)); conv => whnf)
              | ((with_reducible refine Need.mk ?_ ?_); (first | omega | rfl | decide | (refine ⟨?_, ?_⟩ <;> simp <;> omega) | (simp; omega)); conv => whnf)
              | ((with_reducible refine Wr.quo ?_ ?_ ?_ ?_); omega; omega; omega; conv => whnf)
              | ((with_reducible refine Wr.inr ?_ ?_); (first | omega | (simp; omega)); conv => whnf)
              | ((with_reducible refine Wr.inu ?_ ?_); omega; conv => whnf)
              | ((with_reducible refine AltK.l ?_); (conv => whnf); (first | (refine CallK.mk _ (hnm) ?_) | (refine CallK.mk _ (h3) ?_) | (refine CallK.mk _ (h4) ?_) | (refine CallK.mk _ (h7) ?_)); conv => whnf)
              | (exfalso; first | omega | contradiction))
            all_goals rfl
        | false =>
          rw [y1, if_neg (by decide)] at h3
          cases y2 : badS g hiV B with
          | true =>
            rw [y2, if_pos rfl] at h4
            conv => whnf
            repeat' (first
              | ((with_reducible refine Split.of_true ?_); conv => whnf)
              | ((with_reducible refine Split.of_false ?_); conv => whnf)
              | ((with_reducible refine Split.neg ?_))
              | ((with_reducible refine Split.is_true ?_ ?_); decide; conv => whnf)
              | ((with_reducible refine Split.is_false ?_ ?_); decide; conv => whnf)
              | ((with_reducible refine Split.nez (fun _ => ?_) (fun _ => ?_)) <;> conv => whnf)
              | ((with_reducible refine Split.eqz (fun _ => ?_) (fun _ => ?_)) <;> conv => whnf)
              | ((with_reducible refine Split.and ?_))
              | ((with_reducible refine Split.or ?_))
              | ((with_reducible refine Split.streq (fun _ => ?_) (fun _ => ?_)) <;> conv => whnf)
              | ((with_reducible refine Split.dec (fun _ => ?_) (fun _ => ?_)) <;> conv => whnf)
              | ((with_reducible refine Split.mk (fun _ => ?_) (fun _ => ?_)) <;> conv => whnf)
              | ((with_reducible refine NilK.mk (fun _ => ?_) ?_) <;> conv => whnf)
              | ((with_reducible refine AltK.l ?_); (conv => whnf); (with_reducible refine Need.mk ?_ ?_); (first | omega | (refine ⟨?_, ?_⟩ <;> simp <;> omega) | (simp; omega)); conv => whnf)
              | ((with_reducible refine Need.mk ?_ ?_); (first | omega | rfl | decide | (refine ⟨?_, ?_⟩ <;> simp <;> omega) | (simp; omega)); conv => whnf)
              | ((with_reducible refine Wr.quo ?_ ?_ ?_ ?_); omega; omega; omega; conv => whnf)
              | ((with_reducible refine Wr.inr ?_ ?_); (first | omega | (simp; omega)); conv => whnf)
              | ((with_reducible refine Wr.inu ?_ ?_); omega; conv => whnf)
              | ((with_reducible refine AltK.l ?_); (conv => whnf); (first | (refine CallK.mk _ (hnm) ?_) | (refine CallK.mk _ (h3) ?_) | (refine CallK.mk _ (h4) ?_) | (refine CallK.mk _ (h7) ?_)); conv => whnf)
              | (exfalso; first | omega | contradiction))
            all_goals rfl
          | false =>
            rw [y2, if_neg (by decide)] at h4
            replace h3 : Ev Tryz.prog 54 [.sl 5 (((l.map sgD).take at'.toNat).drop (Int.toNat 0)), grD g] (.tup [.agg [iD g.x, iD g.y, iD g.side, iD g.cols, iD g.rows, .sl 1 ((levS g hiV A).map iD)], iD 0]) := h3
            replace h4 : Ev Tryz.prog 54 [.sl 5 (((l.map sgD).take ((l.map sgD).length : Int).toNat).drop at'.toNat), grD g] (.tup [.agg [iD g.x, iD g.y, iD g.side, iD g.cols, iD g.rows, .sl 1 ((levS g hiV B).map iD)], iD 0]) := h4
            have hAl : ((levS g hiV A).map iD).length = cellsN g := by rw [List.length_map, lev_len]
            have hBl : ((levS g hiV B).map iD).length = cellsN g := by rw [List.length_map, lev_len]
            conv => whnf
            repeat' (first
              | ((with_reducible refine Split.of_true ?_); conv => whnf)
              | ((with_reducible refine Split.of_false ?_); conv => whnf)
              | ((with_reducible refine Split.neg ?_))
              | ((with_reducible refine Split.is_true ?_ ?_); decide; conv => whnf)
              | ((with_reducible refine Split.is_false ?_ ?_); decide; conv => whnf)
              | ((with_reducible refine Split.nez (fun _ => ?_) (fun _ => ?_)) <;> conv => whnf)
              | ((with_reducible refine Split.eqz (fun _ => ?_) (fun _ => ?_)) <;> conv => whnf)
              | ((with_reducible refine Split.and ?_))
              | ((with_reducible refine Split.or ?_))
              | ((with_reducible refine Split.streq (fun _ => ?_) (fun _ => ?_)) <;> conv => whnf)
              | ((with_reducible refine Split.dec (fun _ => ?_) (fun _ => ?_)) <;> conv => whnf)
              | ((with_reducible refine Split.mk (fun _ => ?_) (fun _ => ?_)) <;> conv => whnf)
              | ((with_reducible refine NilK.mk (fun _ => ?_) ?_) <;> conv => whnf)
              | ((with_reducible refine AltK.l ?_); (conv => whnf); (with_reducible refine Need.mk ?_ ?_); (first | omega | (refine ⟨?_, ?_⟩ <;> simp <;> omega) | (simp; omega)); conv => whnf)
              | ((with_reducible refine Need.mk ?_ ?_); (first | omega | rfl | decide | (refine ⟨?_, ?_⟩ <;> simp <;> omega) | (simp; omega)); conv => whnf)
              | ((with_reducible refine Wr.quo ?_ ?_ ?_ ?_); omega; omega; omega; conv => whnf)
              | ((with_reducible refine Wr.inr ?_ ?_); (first | omega | (simp; omega)); conv => whnf)
              | ((with_reducible refine Wr.inu ?_ ?_); omega; conv => whnf)
              | ((with_reducible refine AltK.l ?_); (conv => whnf); (first | (refine CallK.mk _ (hnm) ?_) | (refine CallK.mk _ (h3) ?_) | (refine CallK.mk _ (h4) ?_)); conv => whnf)
              | (exfalso; first | omega | contradiction))
            refine LoopK.o2 (fun i : Nat => i ≤ cellsN g) (fun i => [(20, .d (.int .i64 i))]) (fun _ => []) (fun i => cellsN g - i) 0 (by simp) (by refine ⟨?_, ?_, rfl⟩ <;> (repeat' (first | exact True.intro | exact rfl | refine ⟨?_, ?_⟩ | (intro h; cases h; done) | (intro h; exact h) | exact map_snoc | (refine own_congr ?_; simp; done) | (refine int_congr ?_; (first | omega | (simp; omega))) | (simp; done)))) ?_
            rintro j hj
            by_cases hjN : j < cellsN g
            · have hL := lev_get (g := g) (v := hiV) (l := l) hjN
              have hA := lev_get (g := g) (v := hiV) (l := A) hjN
              have hB := lev_get (g := g) (v := hiV) (l := B) hjN
              have hJ := joinI (hbo A y1 j hjN) (hbo B y2 j hjN)
              rw [← xa] at hJ
              generalize (maxO g hiV l (j : Int)).getD 30000 = L at *
              generalize (maxO g hiV A (j : Int)).getD 30000 = X at *
              generalize (maxO g hiV B (j : Int)).getD 30000 = Y at *
              conv => whnf
              repeat' (first
                | ((refine PickE.map j hB (by omega) ?_); conv => whnf)
                | ((refine PickE.map j hA (by omega) ?_); conv => whnf)
                | ((refine PickE.map j hL (by omega) ?_); conv => whnf)
                | ((with_reducible refine Split.of_true ?_); conv => whnf)
                | ((with_reducible refine Split.of_false ?_); conv => whnf)
                | ((with_reducible refine Split.neg ?_))
                | ((with_reducible refine Split.is_true ?_ ?_); decide; conv => whnf)
                | ((with_reducible refine Split.is_false ?_ ?_); decide; conv => whnf)
                | ((with_reducible refine Split.nez (fun _ => ?_) (fun _ => ?_)) <;> conv => whnf)
                | ((with_reducible refine Split.eqz (fun _ => ?_) (fun _ => ?_)) <;> conv => whnf)
                | ((with_reducible refine Split.and ?_))
                | ((with_reducible refine Split.or ?_))
                | ((with_reducible refine Split.streq (fun _ => ?_) (fun _ => ?_)) <;> conv => whnf)
                | ((with_reducible refine Split.dec (fun _ => ?_) (fun _ => ?_)) <;> conv => whnf)
                | ((with_reducible refine Split.mk (fun _ => ?_) (fun _ => ?_)) <;> conv => whnf)
                | ((with_reducible refine NilK.mk (fun _ => ?_) ?_) <;> conv => whnf)
                | ((with_reducible refine AltK.l ?_); (conv => whnf); (with_reducible refine Need.mk ?_ ?_); (first | omega | (refine ⟨?_, ?_⟩ <;> simp <;> omega) | (simp; omega)); conv => whnf)
                | ((with_reducible refine Need.mk ?_ ?_); (first | omega | rfl | decide | (refine ⟨?_, ?_⟩ <;> simp <;> omega) | (simp; omega)); conv => whnf)
                | ((with_reducible refine Wr.quo ?_ ?_ ?_ ?_); omega; omega; omega; conv => whnf)
                | ((with_reducible refine Wr.inr ?_ ?_); (first | omega | (simp; omega)); conv => whnf)
                | ((with_reducible refine Wr.inu ?_ ?_); omega; conv => whnf)
                | (exfalso; first | omega | contradiction))
              all_goals first
                | exact Again.au (j + 1) (by omega) (by omega) (by refine ⟨?_, ?_, rfl⟩ <;> (repeat' (first | exact True.intro | exact rfl | refine ⟨?_, ?_⟩ | (intro h; cases h; done) | (intro h; exact h) | exact map_snoc | (refine own_congr ?_; simp; done) | (refine int_congr ?_; (first | omega | (simp; omega))) | (simp; done))))
                | (first | rw [if_pos (by omega)] at hJ | rw [if_neg (by omega)] at hJ; exact absurd hJ (by assumption))
            · conv => whnf
              repeat' (first
                | ((with_reducible refine Split.of_true ?_); conv => whnf)
                | ((with_reducible refine Split.of_false ?_); conv => whnf)
                | ((with_reducible refine Split.neg ?_))
                | ((with_reducible refine Split.is_true ?_ ?_); decide; conv => whnf)
                | ((with_reducible refine Split.is_false ?_ ?_); decide; conv => whnf)
                | ((with_reducible refine Split.nez (fun _ => ?_) (fun _ => ?_)) <;> conv => whnf)
                | ((with_reducible refine Split.eqz (fun _ => ?_) (fun _ => ?_)) <;> conv => whnf)
                | ((with_reducible refine Split.and ?_))
                | ((with_reducible refine Split.or ?_))
                | ((with_reducible refine Split.streq (fun _ => ?_) (fun _ => ?_)) <;> conv => whnf)
                | ((with_reducible refine Split.dec (fun _ => ?_) (fun _ => ?_)) <;> conv => whnf)
                | ((with_reducible refine Split.mk (fun _ => ?_) (fun _ => ?_)) <;> conv => whnf)
                | ((with_reducible refine NilK.mk (fun _ => ?_) ?_) <;> conv => whnf)
                | ((with_reducible refine AltK.l ?_); (conv => whnf); (with_reducible refine Need.mk ?_ ?_); (first | omega | (refine ⟨?_, ?_⟩ <;> simp <;> omega) | (simp; omega)); conv => whnf)
                | ((with_reducible refine Need.mk ?_ ?_); (first | omega | rfl | decide | (refine ⟨?_, ?_⟩ <;> simp <;> omega) | (simp; omega)); conv => whnf)
                | ((with_reducible refine Wr.quo ?_ ?_ ?_ ?_); omega; omega; omega; conv => whnf)
                | ((with_reducible refine Wr.inr ?_ ?_); (first | omega | (simp; omega)); conv => whnf)
                | ((with_reducible refine Wr.inu ?_ ?_); omega; conv => whnf)
                | ((with_reducible refine AltK.l ?_); (conv => whnf); (first | (refine CallK.mk _ (h7) ?_)); conv => whnf)
                | (exfalso; first | omega | contradiction))
              rfl
    · generalize binRes g hiV l = a at *
      generalize cntRes g l = c at *
      obtain ⟨a1, a2⟩ := a
      obtain ⟨c1, c2⟩ := c
      dsimp only at hz
      replace h1 : Ev Tryz.prog 54 [.sl 5 (l.map sgD), grD g] (.tup [grD a1, iD a2]) := h1
      replace h2 : Ev Tryz.prog 55 [.sl 5 (l.map sgD), grD g] (.tup [.sl 1 (c1.map iD), iD c2]) := h2
      refine ev_of_awp tysOk mixed (fn := Tryz.f13) Tryz.func13 rfl rfl rfl ?_
      conv => whnf
      repeat' (first
        | ((with_reducible refine Split.of_true ?_); conv => whnf)
        | ((with_reducible refine Split.of_false ?_); conv => whnf)
        | ((with_reducible refine Split.neg ?_))
        | ((with_reducible refine Split.is_true ?_ ?_); decide; conv => whnf)
        | ((with_reducible refine Split.is_false ?_ ?_); decide; conv => whnf)
        | ((with_reducible refine Split.nez (fun _ => ?_) (fun _ => ?_)) <;> conv => whnf)
        | ((with_reducible refine Split.eqz (fun _ => ?_) (fun _ => ?_)) <;> conv => whnf)
        | ((with_reducible refine Split.and ?_))
        | ((with_reducible refine Split.or ?_))
        | ((with_reducible refine Split.streq (fun _ => ?_) (fun _ => ?_)) <;> conv => whnf)
        | ((with_reducible refine Split.dec (fun _ => ?_) (fun _ => ?_)) <;> conv => whnf)
        | ((with_reducible refine Split.mk (fun _ => ?_) (fun _ => ?_)) <;> conv => whnf)
        | ((with_reducible refine NilK.mk (fun _ => ?_) ?_) <;> conv => whnf)
        | ((with_reducible refine AltK.l ?_); (conv => whnf); (with_reducible refine Need.mk ?_ ?_); (first | omega | (refine ⟨?_, ?_⟩ <;> simp <;> omega) | (simp; omega)); conv => whnf)
        | ((with_reducible refine Need.mk ?_ ?_); (first | omega | rfl | decide | (refine ⟨?_, ?_⟩ <;> simp <;> omega) | (simp; omega)); conv => whnf)
        | ((with_reducible refine Wr.quo ?_ ?_ ?_ ?_); omega; omega; omega; conv => whnf)
        | ((with_reducible refine Wr.inr ?_ ?_); (first | omega | (simp; omega)); conv => whnf)
        | ((with_reducible refine Wr.inu ?_ ?_); omega; conv => whnf)
        | ((with_reducible refine AltK.l ?_); (conv => whnf); (first | (refine CallK.mk _ (h0) ?_) | (refine CallK.mk _ (hw) ?_) | (refine CallK.mk _ (h1) ?_) | (refine CallK.mk _ (h2) ?_) | (refine CallK.mk _ (h7) ?_)); conv => whnf)
        | (exfalso; first | omega | contradiction))
      all_goals first | rfl | (exfalso; omega)
end Go.Proofs.Tryz
end
