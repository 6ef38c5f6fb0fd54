import Derived.Test.YticnipadahihhaaTvF
namespace Go.Proofs.Try
open Go Go.Vm
set_option maxRecDepth 20000
/-! Merging two records of marks, plain law. -/
def dupG (p : Mk) : List Mk → Bool
  | [] => false
  | b :: r => decide (b.m = p.m) || dupG b r
def dupL : List Mk → Bool
  | [] => false
  | a :: r => dupG a r
def mref : List Mk → List Mk → Option (List Mk)
  | [], Y => some Y
  | x :: U, [] => some (x :: U)
  | x :: U, y :: Y => if x.m < y.m then (mref U (y :: Y)).map (x :: ·) else if y.m < x.m then (mref (x :: U) Y).map (y :: ·) else if x.l = y.l then (mref U Y).map (x :: ·) else none
termination_by U Y => U.length + Y.length
def SA (l : List Mk) : Prop := l.Pairwise fun a b => a.m < b.m
theorem mref_nil {Y : List Mk} : mref [] Y = some Y := by rw [mref]
theorem nil_mref : ∀ {U : List Mk}, mref U [] = some U
  | [] => by rw [mref]
  | _ :: _ => by rw [mref]
theorem mref_cons {x y : Mk} {U Y : List Mk} : mref (x :: U) (y :: Y) = if x.m < y.m then (mref U (y :: Y)).map (x :: ·) else if y.m < x.m then (mref (x :: U) Y).map (y :: ·) else if x.l = y.l then (mref U Y).map (x :: ·) else none := by rw [mref]
theorem srt_of_asc {α : Type} (key : α → Int) : ∀ {l : List α}, Asc key l → srt key l = l
  | [], _ => by rw [srt]
  | x :: U, h => by
    have h' := List.pairwise_cons.1 h
    rw [srt, srt_of_asc key h'.2]
    match U, h' with
    | [], _ => rw [nil_mrg]
    | y :: U, h' => rw [mrg_cons, if_neg (by have := h'.1 y List.mem_cons_self; omega), mrg_nil]
theorem SA.asc {l : List Mk} (h : SA l) : Asc kM l := h.imp fun {a b} h => by simp only [kM]; omega
theorem mrg_head : ∀ {U Y : List Mk} {y : Mk}, (∀ x ∈ U, y.m < x.m) → mrg kM U (y :: Y) = y :: mrg kM U Y
  | [], Y, y, _ => by rw [mrg_nil, mrg_nil]
  | x :: U, Y, y, h => by rw [mrg_cons, if_pos (show kM y < kM x from h x List.mem_cons_self)]
theorem cmpG_asc : ∀ {Y : List Mk} {p : Mk}, SA Y → (∀ y ∈ Y, p.m < y.m) → cmpG p Y = Y ∧ dupG p Y = false
  | [], _, _, _ => ⟨rfl, rfl⟩
  | y :: Y, p, h, hp => by
    have h' := List.pairwise_cons.1 h
    have hy := hp y List.mem_cons_self
    obtain ⟨i1, i2⟩ := cmpG_asc (p := y) h'.2 h'.1
    rw [cmpG, if_neg (by rintro rfl; omega), i1, dupG, i2]
    exact ⟨rfl, by simp; omega⟩
def MrOk (p : Mk) (Z : List Mk) : Option (List Mk) → Prop
  | some L => cmpG p Z = L ∧ dupG p L = false
  | none => dupG p (cmpG p Z) = true
theorem MrOk.step {p x : Mk} {Z : List Mk} {o : Option (List Mk)} (hp : p.m < x.m) (h : MrOk x Z o) : MrOk p (x :: Z) (o.map (x :: ·)) := by
  have e : cmpG p (x :: Z) = x :: cmpG x Z := by rw [cmpG, if_neg (by rintro rfl; omega)]
  cases o with
  | none =>
    show dupG p (cmpG p (x :: Z)) = true
    rw [e, dupG, show dupG x (cmpG x Z) = true from h, Bool.or_true]
  | some L =>
    refine ⟨by rw [e, show cmpG x Z = L from h.1], ?_⟩
    rw [dupG, show dupG x L = false from h.2, Bool.or_false]
    simp; omega
theorem mref_ok : ∀ {U Y : List Mk} {p : Mk}, SA U → SA Y → (∀ x ∈ U, p.m < x.m) → (∀ y ∈ Y, p.m < y.m) → MrOk p (mrg kM U Y) (mref U Y)
  | [], Y, p, _, h, _, hp => by rw [mref_nil, mrg_nil]; exact cmpG_asc h hp
  | x :: U, [], p, h, _, hp, _ => by rw [nil_mref, nil_mrg]; exact cmpG_asc h hp
  | x :: U, y :: Y, p, hu, hy, hpu, hpy => by
    have hu' := List.pairwise_cons.1 hu
    have hy' := List.pairwise_cons.1 hy
    have px := hpu x List.mem_cons_self
    have py := hpy y List.mem_cons_self
    rw [mref_cons]
    by_cases h1 : x.m < y.m
    · rw [if_pos h1, mrg_cons, if_neg (by simp only [kM]; omega)]
      refine .step px (mref_ok hu'.2 hy hu'.1 fun z hz => ?_)
      rcases List.mem_cons.1 hz with rfl | hz
      · exact h1
      · have := hy'.1 z hz; omega
    · rw [if_neg h1]
      by_cases h2 : y.m < x.m
      · rw [if_pos h2, mrg_cons, if_pos (by simp only [kM]; omega)]
        refine .step py (mref_ok hu hy'.2 (fun z hz => ?_) hy'.1)
        rcases List.mem_cons.1 hz with rfl | hz
        · exact h2
        · have := hu'.1 z hz; omega
      · rw [if_neg h2, mrg_cons, if_neg (by simp only [kM]; omega), mrg_head (fun z hz => by have := hu'.1 z hz; omega)]
        by_cases h3 : x.l = y.l
        · obtain rfl : x = y := mk_ext9 (by omega) h3
          rw [if_pos h3]
          have ih := MrOk.step px (mref_ok hu'.2 hy'.2 hu'.1 hy'.1)
          have e : cmpG p (x :: x :: mrg kM U Y) = cmpG p (x :: mrg kM U Y) := by
            rw [cmpG, cmpG, if_pos rfl, cmpG]
          revert ih
          cases (mref U Y).map (x :: ·) with
          | none => intro ih; show dupG p (cmpG p _) = true; rw [e]; exact ih
          | some L => intro ih; exact ⟨by rw [e]; exact ih.1, ih.2⟩
        · rw [if_neg h3]
          show dupG p (cmpG p _) = true
          have hne : ¬ y = x := by rintro rfl; exact h3 rfl
          rw [cmpG, if_neg (by rintro rfl; omega), cmpG, if_neg hne, dupG, dupG]
          have : y.m = x.m := by omega
          simp [this]
termination_by U Y => U.length + Y.length
theorem cmpG_L {Z : List Mk} {p : Mk} (h : ∀ z ∈ Z, p.m < z.m) : cmpG p Z = cmpL Z ∧ dupG p (cmpL Z) = dupL (cmpL Z) := by
  match Z, h with
  | [], _ => exact ⟨rfl, rfl⟩
  | z :: Z, h =>
    have := h z List.mem_cons_self
    refine ⟨by rw [cmpG, if_neg (by rintro rfl; omega)]; rfl, ?_⟩
    show (decide (z.m = p.m) || dupG z (cmpG z Z)) = dupG z (cmpG z Z)
    rw [decide_eq_false (by omega), Bool.false_or]
/-- What the sorted and compacted marks are. -/
theorem merged_ok {U Y : List Mk} (hu : SA U) (hy : SA Y) (h1 : ∀ x ∈ U, 0 ≤ x.m) (h2 : ∀ y ∈ Y, 0 ≤ y.m) : match mref U Y with
    | some L => cmpL (srt kM (U ++ Y)) = L ∧ dupL L = false
    | none => dupL (cmpL (srt kM (U ++ Y))) = true := by
  have h := mref_ok (p := ⟨-1, 0⟩) hu hy (fun x hx => by have := h1 x hx; simp only; omega) (fun y hy => by have := h2 y hy; simp only; omega)
  have e : srt kM (U ++ Y) = mrg kM U Y := by rw [srt_app, srt_of_asc kM hu.asc, srt_of_asc kM hy.asc]
  obtain ⟨g1, g2⟩ := cmpG_L (Z := mrg kM U Y) (p := ⟨-1, 0⟩) (fun z hz => by
    rcases List.mem_append.1 ((mrg_perm kM).mem_iff.1 hz) with hz | hz
    · have := h1 z hz; simp only; omega
    · have := h2 z hz; simp only; omega)
  rw [e]
  cases hm : mref U Y with
  | none => rw [hm] at h; rw [← g2, ← g1]; exact h
  | some L =>
    rw [hm] at h
    have h' : cmpL (mrg kM U Y) = L := by rw [← g1]; exact h.1
    refine ⟨h', ?_⟩
    rw [← h', ← g2, h']; exact h.2
theorem mref_comm : ∀ {U Y : List Mk}, mref U Y = mref Y U
  | [], Y => by rw [mref_nil, nil_mref]
  | x :: U, [] => by rw [mref_nil, nil_mref]
  | x :: U, y :: Y => by
    rw [mref_cons, mref_cons]
    by_cases h1 : x.m < y.m
    · rw [if_pos h1, if_neg (by omega), if_pos h1, mref_comm (U := U) (Y := y :: Y)]
    · rw [if_neg h1]
      by_cases h2 : y.m < x.m
      · rw [if_pos h2, if_pos h2, mref_comm (U := x :: U) (Y := Y)]
      · rw [if_neg h2, if_neg h2, if_neg h1]
        by_cases h3 : x.l = y.l
        · obtain rfl : x = y := mk_ext9 (by omega) h3
          rw [if_pos rfl, if_pos rfl, mref_comm (U := U) (Y := Y)]
        · rw [if_neg h3, if_neg fun h => h3 h.symm]
termination_by U Y => U.length + Y.length
theorem mref_self : ∀ {U : List Mk}, mref U U = some U
  | [] => mref_nil
  | x :: U => by rw [mref_cons, if_neg (by omega), if_neg (by omega), if_pos rfl, mref_self (U := U)]; rfl
theorem mref_again : ∀ {U Y L : List Mk}, mref U Y = some L → mref L U = some L
  | [], Y, L, h => by rw [nil_mref]
  | x :: U, [], L, h => by
    rw [nil_mref] at h; cases h; exact mref_self
  | x :: U, y :: Y, L, h => by
    rw [mref_cons] at h
    split at h
    · obtain ⟨M, hM, rfl⟩ := Option.map_eq_some_iff.1 h
      rw [mref_cons, if_neg (by omega), if_neg (by omega), if_pos rfl, mref_again hM]; rfl
    · split at h
      · obtain ⟨M, hM, rfl⟩ := Option.map_eq_some_iff.1 h
        rw [mref_cons, if_pos (by assumption), mref_again hM]; rfl
      · split at h
        · obtain ⟨M, hM, rfl⟩ := Option.map_eq_some_iff.1 h
          rw [mref_cons, if_neg (by omega), if_neg (by omega), if_pos rfl, mref_again hM]; rfl
        · cases h
termination_by U Y => U.length + Y.length
theorem mref_mem : ∀ {U Y L : List Mk}, mref U Y = some L → ∀ z ∈ L, z ∈ U ∨ z ∈ Y
  | [], Y, L, h, z, hz => by rw [mref_nil] at h; cases h; exact .inr hz
  | x :: U, [], L, h, z, hz => by rw [nil_mref] at h; cases h; exact .inl hz
  | x :: U, y :: Y, L, h, z, hz => by
    rw [mref_cons] at h
    split at h
    · obtain ⟨M, hM, rfl⟩ := Option.map_eq_some_iff.1 h
      rcases List.mem_cons.1 hz with rfl | hz
      · exact .inl List.mem_cons_self
      · exact (mref_mem hM z hz).imp (List.mem_cons_of_mem _) id
    · split at h
      · obtain ⟨M, hM, rfl⟩ := Option.map_eq_some_iff.1 h
        rcases List.mem_cons.1 hz with rfl | hz
        · exact .inr List.mem_cons_self
        · exact (mref_mem hM z hz).imp id (List.mem_cons_of_mem _)
      · split at h
        · obtain ⟨M, hM, rfl⟩ := Option.map_eq_some_iff.1 h
          rcases List.mem_cons.1 hz with rfl | hz
          · exact .inl List.mem_cons_self
          · exact (mref_mem hM z hz).imp (List.mem_cons_of_mem _) (List.mem_cons_of_mem _)
        · cases h
termination_by U Y => U.length + Y.length
theorem mref_asc : ∀ {U Y L : List Mk}, mref U Y = some L → SA U → SA Y → SA L
  | [], Y, L, h, _, hy => by rw [mref_nil] at h; cases h; exact hy
  | x :: U, [], L, h, hu, _ => by rw [nil_mref] at h; cases h; exact hu
  | x :: U, y :: Y, L, h, hu, hy => by
    have hu' := List.pairwise_cons.1 hu
    have hy' := List.pairwise_cons.1 hy
    rw [mref_cons] at h
    split at h
    · rename_i h1
      obtain ⟨M, hM, rfl⟩ := Option.map_eq_some_iff.1 h
      refine List.pairwise_cons.2 ⟨fun z hz => ?_, mref_asc hM hu'.2 hy⟩
      rcases mref_mem hM z hz with hz | hz
      · exact hu'.1 z hz
      · rcases List.mem_cons.1 hz with rfl | hz
        · exact h1
        · have := hy'.1 z hz; omega
    · rename_i h1
      split at h
      · rename_i h2
        obtain ⟨M, hM, rfl⟩ := Option.map_eq_some_iff.1 h
        refine List.pairwise_cons.2 ⟨fun z hz => ?_, mref_asc hM hu hy'.2⟩
        rcases mref_mem hM z hz with hz | hz
        · rcases List.mem_cons.1 hz with rfl | hz
          · exact h2
          · have := hu'.1 z hz; omega
        · exact hy'.1 z hz
      · split at h
        · obtain ⟨M, hM, rfl⟩ := Option.map_eq_some_iff.1 h
          refine List.pairwise_cons.2 ⟨fun z hz => ?_, mref_asc hM hu'.2 hy'.2⟩
          rcases mref_mem hM z hz with hz | hz
          · exact hu'.1 z hz
          · have := hy'.1 z hz; omega
        · cases h
termination_by U Y => U.length + Y.length
theorem mref_len : ∀ {U Y L : List Mk}, mref U Y = some L → L.length ≤ U.length + Y.length
  | [], Y, L, h => by rw [mref_nil] at h; cases h; simp
  | x :: U, [], L, h => by rw [nil_mref] at h; cases h; simp
  | x :: U, y :: Y, L, h => by
    rw [mref_cons] at h
    split at h
    · obtain ⟨M, hM, rfl⟩ := Option.map_eq_some_iff.1 h
      have := mref_len hM
      simp only [List.length_cons] at this ⊢; omega
    · split at h
      · obtain ⟨M, hM, rfl⟩ := Option.map_eq_some_iff.1 h
        have := mref_len hM
        simp only [List.length_cons] at this ⊢; omega
      · split at h
        · obtain ⟨M, hM, rfl⟩ := Option.map_eq_some_iff.1 h
          have := mref_len hM
          simp only [List.length_cons] at this ⊢; omega
        · cases h
termination_by U Y => U.length + Y.length
end Go.Proofs.Try
