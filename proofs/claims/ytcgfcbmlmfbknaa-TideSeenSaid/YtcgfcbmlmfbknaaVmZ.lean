/- slices.Clone as a contract 'Ev', at whatever element type (out of the library's contract on cells). It names no program. -/
import Derived.Test.YtcgfcbmlmfbknaaVmV
import Derived.Shelf.SlicesE.Clone
import Derived.Shelf.SlGeneric
namespace Go.Vm
open Go.RowKit (Below)
open Go.Shelf Go.Proofs Go.RowKit Go.Lib
section
variable {P : Program} {ρ : Ren}
set_option maxHeartbeats 2000000 in
set_option maxRecDepth 100000 in
/-- Clone at a slice of length 0 that is not nil, wherever it points. -/
theorem clone_none (L : SlLaysE0.n41 P ρ) (i0 : TypeInfo) (z : Value) (size bytes : Nat) (hi : P.info? (ρ.t 23) = some i0) (hz0 : i0.zero = some z) (hz1 : i0.size = size) (hz2 : i0.bytes = bytes) (hzs : z.cells.size = size) (hsz : 0 < size)
    (z23 : ∀ w, (Go.sizeOf (ρ.t 23)).run P w = .ok size w) (ad : Addr) (c : Nat) (w : World) :
    Calls P (ρ.f 41) #[.slice (some ad) 0 c] w fun e w' => ∃ v', e = .returned v' ∧ w'.ownsRow w.heap.size (ρ.t 23) size v' 0 [] ∧ Below w.heap.size w w' := by
  have mixed := L.mixed; have t4 := L.t4; have a4 := L.a4; have z4 := L.z4; have v4 := L.v4; have t22 := L.t22; have a22 := L.a22; have z22 := L.z22; have v22 := L.v22
  have q22 : ∀ (w : World) (a : Option Addr) (n c n' c' : Nat), (binOp .eql (ρ.t 22) (.slice a n c) (.slice none n' c')).run P w = .ok (.bool a.isNone) w := fun w a n c n' c' => Lib.run_eql_slice_nil w _ _ a n c n' c' L.t22
  have u22 : ∀ w, Sem.run P (underlying (ρ.t 22)) w = .ok (TypeDesc.slice (ρ.t 23)) w := run_underlying t22
  obtain ⟨_, _, FG⟩ := L.f41
  go_enter FG, SlBodyN.n41_ntmps ρ
  go_wp2_with (at_builtin; refine wpList_append_own _ rfl _ _ (ρ.t 22) rfl w.heap.size (ρ.t 23) i0 z size bytes t22 hi hz0 hz1 hz2 hzs hsz _ _ _ rfl (World.ownsRow_made w #[] 0 (Nat.le_refl _) (Nat.zero_le _) (by simp)) ad 0 c [] rfl ?qc1 ?qc2 ?qc3 ?qc4 ?qc5 ?qc6 ?_)
  case qc1 => simp
  case qc2 => intro j u hj; simp at hj
  case qc3 => simp
  case qc4 => simp
  case qc5 => simp
  case qc6 => simp
  intro v' w1 hown hgrow hnil
  go_wp2
  go_ret
  refine ⟨v', rfl, by simpa using hown, ?_⟩
  exact ((Below.refl _ w).alloc (Nat.le_refl _) _).grown hgrow (by simp) (by intro k hk; simp [Value.ownBlock] at hk; omega)

/-- A row of the call's own, read as data. -/
theorem rep_of_row {w : World} {A : Sta} {base : Nat} {et : TypeId} {sz n : Nat} {v : Value} {xs : List Value} (hown : w.ownsRow base et sz v n xs) {es : List D} (hn : es.length = n)
    (hsz : ∀ (i : Nat) e, es[i]? = some e → e.cells.length = sz ∧ e.flat = true)
    (hr : ∀ (i : Nat) e (j : Nat) c, es[i]? = some e → e.cells[j]? = some c → ∃ u, xs[i * sz + j]? = some u ∧ Rep w A c u) :
    ∃ A' : Sta, (∀ g o, A g o → A' g o) ∧ (∀ g o, A' g o → A g o ∨ (base ≤ g ∧ g < w.heap.size)) ∧ Rep w A' (.sl sz es) v := by
  obtain ⟨hl, ⟨rfl, hn0⟩ | ⟨g, cap, cur, rfl, hb, hh, hcap, _, hcur, htake⟩⟩ := hown
  · have : es = [] := List.eq_nil_of_length_eq_zero (by omega)
    subst this
    exact ⟨A, fun _ _ h => h, fun _ _ h => .inl h, .slnil sz _ _⟩
  · have hg : g < w.heap.size := by
      rcases Nat.lt_or_ge g w.heap.size with h | h
      · exact h
      · rw [Array.getElem?_eq_none h] at hh; cases hh
    refine ⟨fun k o => A k o ∨ (k = g ∧ o < n * sz), fun _ _ h => .inl h, ?_, ?_⟩
    · rintro k o (h | ⟨rfl, _⟩)
      · exact .inl h
      · exact .inr ⟨hb, hg⟩
    · rw [← hn] at hcap ⊢
      have cellAt : ∀ k u, xs[k]? = some u → k < n * sz ∧ w.cell? ⟨g, k, none⟩ = some u := by
        intro k u hk
        have hlt : k < xs.length := by
          rcases Nat.lt_or_ge k xs.length with h | h
          · exact h
          · rw [List.getElem?_eq_none h] at hk; cases hk
        rw [hl] at hlt
        refine ⟨hlt, ?_⟩
        rw [cell_of_row w g k cur et (0, 0) hh, ← Array.getElem?_toList]
        rw [← htake, List.getElem?_take, if_pos hlt] at hk
        exact hk
      refine .sl g 0 (fun i j => (xs[i * sz + j]?).getD undef) hcap hsz (fun i e j c he hc => ?_) (fun i e j c he hc => ?_)
      · obtain ⟨u, hu, _⟩ := hr i e j c he hc
        obtain ⟨h1, h2⟩ := cellAt _ u hu
        rw [hu]
        simp only [Option.getD_some]
        rw [Nat.zero_add]
        exact ⟨.inr ⟨trivial, by rw [hn]; exact h1⟩, h2⟩
      · obtain ⟨u, hu, h3⟩ := hr i e j c he hc
        simp only [hu, Option.getD_some]
        exact h3.frame (fun _ _ h => .inl h) fun _ _ _ => rfl

/-- slices.Clone hands back what reads as the same. -/
theorem Ev.clone (L : SlLaysE0.n41 P ρ) (i0 : TypeInfo) (z : Value) (size bytes : Nat) (hi : P.info? (ρ.t 23) = some i0) (hz0 : i0.zero = some z) (hz1 : i0.size = size) (hz2 : i0.bytes = bytes) (hzs : z.cells.size = size) (hsz : 0 < size)
    (z23 : ∀ w, (Go.sizeOf (ρ.t 23)).run P w = .ok size w) (es : List D) (hn : es.length ≤ maxLen) (hbig : es.length * bytes ≤ 140737488355328) :
    Ev P (ρ.f 41) [.sl size es] (.sl size es) := by
  refine ⟨?_, ?_⟩
  · obtain ⟨nm, hnm, hf⟩ := L.f41
    exact ⟨_, hf, hnm, rfl⟩
  intro w A vals hA hl hv
  obtain ⟨v, rfl⟩ : ∃ v, vals = #[v] := by
    rcases vals with ⟨_ | ⟨v, _ | ⟨u, r⟩⟩⟩
    · simp at hl
    · exact ⟨v, rfl⟩
    · simp at hl
  have h1 := hv 0 _ v rfl rfl
  have fin : ∀ v' (w' : World), Below w.heap.size w w' → w'.ownsRow w.heap.size (ρ.t 23) size v' 0 [] → ∃ v A', Ending.returned v' = .returned v ∧ Rep w' A' (.sl size []) v ∧ Below w.heap.size w w' ∧
      (∀ g o, A g o → A' g o) ∧ (∀ g o, A' g o → g < w'.heap.size) ∧ (∀ g o, A' g o → A g o ∨ w.heap.size ≤ g) := by
    intro v' w' hb hown
    obtain ⟨A', a1, a2, a3⟩ := rep_of_row (A := A) hown (es := []) rfl (fun i e h => by simp at h) (fun i e j c h => by simp at h)
    refine ⟨v', A', rfl, a3, hb, a1, fun g o h => ?_, fun g o h => ?_⟩
    · rcases a2 g o h with h | h
      · exact Nat.lt_of_lt_of_le (hA g o h) hb.size
      · exact h.2
    · rcases a2 g o h with h | h
      · exact .inl h
      · exact .inr h.1
  cases h1 with
  | slnil _ a cap =>
    cases a with
    | none =>
      refine (AnyE.slices_Clone_nil L 0 cap w).mono ?_
      rintro e w' ⟨rfl, rfl⟩
      exact ⟨_, A, rfl, .slnil size _ _, Below.refl _ _, fun _ _ h => h, fun g o h => hA g o h, fun _ _ h => .inl h⟩
    | some ad =>
      refine (clone_none L i0 z size bytes hi hz0 hz1 hz2 hzs hsz z23 ad cap w).mono ?_
      rintro e w' ⟨v', rfl, hown, hb⟩
      exact fin v' w' hb hown
  | @sl _ _ cap g o u hcap hsz' hc hr =>
    have key : ∀ j, j < es.length * size → ∃ e c, es[j / size]? = some e ∧ e.cells[j % size]? = some c := by
      intro j hj
      have h1 : j / size < es.length := Nat.div_lt_of_lt_mul (by rw [Nat.mul_comm]; exact hj)
      have h2 : j % size < size := Nat.mod_lt _ hsz
      refine ⟨es[j / size], ?_⟩
      have h3 := (hsz' _ _ (List.getElem?_eq_getElem h1)).1
      exact ⟨_, List.getElem?_eq_getElem h1, List.getElem?_eq_getElem (by rw [h3]; exact h2)⟩
    let news := (List.range (es.length * size)).map fun k => u (k / size) (k % size)
    have hnews : ∀ j x, news[j]? = some x → j < es.length * size ∧ x = u (j / size) (j % size) := by
      intro j x hj
      simp only [news, List.getElem?_map, Option.map_eq_some_iff] at hj
      obtain ⟨k, hk, rfl⟩ := hj
      have h1 : j < es.length * size := by
        rcases Nat.lt_or_ge j (es.length * size) with h | h
        · exact h
        · rw [List.getElem?_eq_none (by simpa using h)] at hk; cases hk
      rw [List.getElem?_range h1] at hk
      cases hk
      exact ⟨h1, rfl⟩
    refine (AnyE.slices_Clone L i0 z size bytes hi hz0 hz1 hz2 hzs hsz z23 g o es.length cap news w (by simp [news]) hn hbig ?_ ?_).mono ?_
    · intro j x hj
      obtain ⟨h1, rfl⟩ := hnews j x hj
      obtain ⟨e, c, h2, h3⟩ := key j h1
      have := (hc _ e _ c h2 h3).2
      rwa [Nat.add_assoc, Nat.mul_comm, Nat.div_add_mod] at this
    · intro x hx
      obtain ⟨j, hj⟩ := List.getElem?_of_mem hx
      obtain ⟨h1, rfl⟩ := hnews j x hj
      obtain ⟨e, c, h2, h3⟩ := key j h1
      refine (hr _ e _ c h2 h3).oneV ?_
      have h4 := (hsz' _ _ h2).2
      have h5 := List.mem_of_getElem? h3
      cases e with
      | agg cs => simp only [D.flat, List.all_eq_true] at h4; exact h4 c h5
      | tup cs => cases h4
      | _ => simp only [D.cells, List.mem_singleton] at h5; subst h5; rfl
    · rintro e w' ⟨v', rfl, hown, _, hb⟩
      have hw : ∀ k q, A k q → w'.cell? ⟨k, q, none⟩ = w.cell? ⟨k, q, none⟩ := fun k q hk => hb.cell (p := ⟨k, q, none⟩) (hA k q hk)
      obtain ⟨A', a1, a2, a3⟩ := rep_of_row (A := A) hown (es := es) rfl hsz' (fun i e j c he hc' => by
        have hj : j < size := by
          rw [← (hsz' i e he).1]
          rcases Nat.lt_or_ge j e.cells.length with h | h
          · exact h
          · rw [List.getElem?_eq_none h] at hc'; cases hc'
        have hi' : i < es.length := by
          rcases Nat.lt_or_ge i es.length with h | h
          · exact h
          · rw [List.getElem?_eq_none h] at he; cases he
        refine ⟨u i j, ?_, (hr i e j c he hc').frame (fun _ _ h => h) hw⟩
        have h5 : i * size + j < es.length * size := by
          have : (i + 1) * size ≤ es.length * size := Nat.mul_le_mul_right _ hi'
          rw [Nat.add_mul] at this
          omega
        have h6 : (i * size + j) / size = i := by
          rw [Nat.mul_comm, Nat.mul_add_div hsz, Nat.div_eq_of_lt hj, Nat.add_zero]
        have h7 : (i * size + j) % size = j := by
          rw [Nat.mul_comm, Nat.mul_add_mod, Nat.mod_eq_of_lt hj]
        simp only [news, List.getElem?_map, List.getElem?_range h5, Option.map_some, h6, h7])
      refine ⟨v', A', rfl, a3, hb, a1, fun g o h => ?_, fun g o h => ?_⟩
      · rcases a2 g o h with h | h
        · exact Nat.lt_of_lt_of_le (hA g o h) hb.size
        · exact h.2
      · rcases a2 g o h with h | h
        · exact .inl h
        · exact .inr h.1
end
end Go.Vm
