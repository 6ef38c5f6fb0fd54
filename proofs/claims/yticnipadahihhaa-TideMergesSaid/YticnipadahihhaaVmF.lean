/- Each operation, second part: loads and stores, arithmetic, addresses, calls. -/
import Derived.Test.YticnipadahihhaaVmE
namespace Go.Vm
open Go.RowKit (Below)

theorem subL_spec {α : Type} : ∀ (off n : Nat) (l r : List α), subL off n l = some r → r.length = n ∧ off + n ≤ l.length + (if n = 0 then off else 0) ∧ ∀ j, j < n → r[j]? = l[off + j]?
  | off, 0, l, r, h => by
    simp only [subL] at h; cases h
    exact ⟨rfl, by simp, fun j hj => absurd hj (by omega)⟩
  | 0, n + 1, [], r, h => by cases h
  | off + 1, n + 1, [], r, h => by cases h
  | 0, n + 1, c :: cs, r, h => by
    simp only [subL] at h
    split at h
    · rename_i r' hr
      cases h
      obtain ⟨h1, h2, h3⟩ := subL_spec 0 n cs r' hr
      refine ⟨by simp [h1], ?_, fun j hj => ?_⟩
      · simp; split at h2 <;> omega
      · cases j with
        | zero => simp
        | succ j =>
          rw [List.getElem?_cons_succ, h3 j (by omega)]
          simp
    · cases h
  | off + 1, n + 1, c :: cs, r, h => by
    simp only [subL] at h
    obtain ⟨h1, h2, h3⟩ := subL_spec off (n + 1) cs r h
    refine ⟨h1, ?_, fun j hj => ?_⟩
    · simp at h2 ⊢; omega
    · rw [h3 j hj, show off + 1 + j = (off + j) + 1 by omega, List.getElem?_cons_succ]
theorem setL_spec {α : Type} : ∀ (l : List α) (off : Nat) (vs r : List α), setL l off vs = some r →
    r = l.take off ++ vs ++ l.drop (off + vs.length) ∧ off + vs.length ≤ l.length
  | [], 0, [], r, h => by simp only [setL] at h; cases h; simp
  | [], 0, v :: vs, r, h => by cases h
  | [], off + 1, vs, r, h => by cases h
  | c :: cs, 0, [], r, h => by simp only [setL] at h; cases h; simp
  | c :: cs, 0, v :: vs, r, h => by
    simp only [setL] at h
    split at h
    · rename_i r' hr
      cases h
      obtain ⟨h1, h2⟩ := setL_spec cs 0 vs r' hr
      subst h1
      simp at h2 ⊢
      omega
    · cases h
  | c :: cs, off + 1, vs, r, h => by
    simp only [setL] at h
    split at h
    · rename_i r' hr
      cases h
      obtain ⟨h1, h2⟩ := setL_spec cs off vs r' hr
      subst h1
      rw [show off + 1 + vs.length = off + vs.length + 1 by omega]
      simp at h2 ⊢
      omega
    · cases h
theorem spl_get {α : Type} {l vs : List α} {off j : Nat} {c : α} (hl : off + vs.length ≤ l.length) (h : (l.take off ++ vs ++ l.drop (off + vs.length))[j]? = some c) :
    (off ≤ j ∧ j < off + vs.length ∧ vs[j - off]? = some c) ∨ ((j < off ∨ off + vs.length ≤ j) ∧ l[j]? = some c) := by
  have h0 : (l.take off).length = off := by simp; omega
  rcases Nat.lt_or_ge j off with h1 | h1
  · right
    rw [List.append_assoc, List.getElem?_append_left (by omega), List.getElem?_take, if_pos h1] at h
    exact ⟨.inl h1, h⟩
  · rcases Nat.lt_or_ge j (off + vs.length) with h2 | h2
    · left
      rw [List.append_assoc, List.getElem?_append_right (by omega), h0, List.getElem?_append_left (by omega)] at h
      exact ⟨h1, h2, h⟩
    · right
      rw [List.getElem?_append_right (by simp; omega), List.getElem?_drop] at h
      refine ⟨.inr h2, ?_⟩
      rw [← h]
      congr 1
      simp
      omega
theorem spl_get' {α : Type} {l vs : List α} {off j : Nat} (hl : off + vs.length ≤ l.length) :
    (l.take off ++ vs ++ l.drop (off + vs.length))[j]? = if off ≤ j ∧ j < off + vs.length then vs[j - off]? else l[j]? := by
  have h0 : (l.take off).length = off := by simp; omega
  split
  · rename_i h
    rw [List.append_assoc, List.getElem?_append_right (by omega), h0, List.getElem?_append_left (by omega)]
  · rename_i h
    rcases Nat.lt_or_ge j off with h1 | h1
    · rw [List.append_assoc, List.getElem?_append_left (by omega), List.getElem?_take, if_pos h1]
    · have h2 : off + vs.length ≤ j := by omega
      rw [List.getElem?_append_right (by simp; omega), List.getElem?_drop]
      congr 1
      simp
      omega
theorem spl_len {α : Type} {l vs : List α} {off : Nat} (hl : off + vs.length ≤ l.length) : (l.take off ++ vs ++ l.drop (off + vs.length)).length = l.length := by
  simp; omega
theorem lt_of_get {α : Type} {l : List α} {j : Nat} {c : α} (h : l[j]? = some c) : j < l.length := by
  rcases Nat.lt_or_ge j l.length with h1 | h1
  · exact h1
  · rw [List.getElem?_eq_none h1] at h; cases h
theorem arr_get {C : Array Value} {j : Nat} (h : j < C.size) : ∃ v, C[j]? = some v := ⟨C[j], by simp [h]⟩

theorem allD_spec : ∀ {l : List AV} {ds : List D}, allD l = some ds → l = ds.map .d
  | [], ds, h => by simp only [allD] at h; cases h; rfl
  | c :: cs, ds, h => by
    simp only [allD] at h
    split at h
    · split at h
      · rename_i xs hx
        cases h
        rw [allD_spec hx]; rfl
      · cases h
    · cases h
theorem oneL_spec : ∀ {l : List AV}, oneL l = true → ∀ c ∈ l, c.one = true
  | [], _, c, hc => by cases hc
  | x :: xs, h, c, hc => by
    simp only [oneL] at h
    split at h
    · rename_i h1
      cases hc with
      | head => exact h1
      | tail _ hc => exact oneL_spec h c hc
    · cases h

section
variable {P : Program} {S : Tys} {oc : Option Orc}
variable {w0 : Ent} {A0 : Sta} {N : Nat} {L : Lay} {A : Sta} {T : Nat → AV} {B : Nat → Option Bx} {a : Act} {w : World}

theorem rv_d {x : D} {u : Value} (h : RV L w A (.d x) u) : Rep w A x u := by cases h with | d h => exact h
theorem mkA_rv {l : List AV} {vs : Array Value} (hl : l.length = vs.size) (h1 : oneL l = true) (hr : ∀ (j : Nat) c v, l[j]? = some c → vs[j]? = some v → RV L w A c v) : RV L w A (mkA l) (.agg vs) := by
  have h1 := oneL_spec h1
  unfold mkA
  split
  · rename_i ds hd
    have := allD_spec hd
    subst this
    refine .d (.agg (by simpa using hl) (fun c hc => ?_) fun j c v hc hv => ?_)
    · exact h1 (.d c) (List.mem_map_of_mem hc)
    · exact rv_d (hr j (.d c) v (by simp [hc]) hv)
  · exact .agg hl h1 hr

theorem run_loadVar_one {t : TypeId} {ti : TI} (ht : TyOk P t ti) (hg : isAggT ti.und = false) {p : Addr} {u : Value} (hc : w.cell? p = some u) : (loadVar t p).run P w = .ok u w := by
  simp [loadVar, ht.run_isAgg, hg, hc]
theorem isRow_of {d : TypeDesc} (h : isAggT d = true) : d.isRow = true := by cases d <;> first | rfl | cases h

/-- The cells from 'off' on, as the evaluator loads them out of a list. -/
theorem loadL_sound {t : TypeId} {ti : TI} (ht : TyOk P t ti) {cs : List AV} {off g : Nat} {v : AV} {ups} (ho : Out P oc (loadL ti cs off) v ups)
    (hc : ∀ (j : Nat) c, cs[j]? = some c → ∃ u, w.cell? ⟨g, j, none⟩ = some u ∧ RV L w A c u) : ups = [] ∧ ∃ u, (loadVar t ⟨g, off, none⟩).run P w = .ok u w ∧ RV L w A v u := by
  unfold loadL at ho
  split at ho
  · rename_i hg
    split at ho
    · rename_i c hcs
      split at ho
      · cases ho
        obtain ⟨u, h1, h2⟩ := hc off _ hcs
        exact ⟨rfl, u, run_loadVar_one ht hg h1, h2⟩
      · cases ho
    · cases ho
  · rename_i hg
    split at ho
    · rename_i l hl
      split at ho
      · rename_i h1
        cases ho
        obtain ⟨e1, e2, e3⟩ := subL_spec _ _ _ _ hl
        have hget : ∀ j, j < ti.size → ∃ c u, l[j]? = some c ∧ w.cell? ⟨g, off + j, none⟩ = some u ∧ RV L w A c u := by
          intro j hj
          have hlj : l[j]? = some (l[j]'(by omega)) := List.getElem?_eq_getElem (by omega)
          have := e3 j hj
          rw [hlj] at this
          obtain ⟨u, h1, h2⟩ := hc (off + j) _ this.symm
          exact ⟨_, u, hlj, h1, h2⟩
        let vs : List Value := (List.range ti.size).map fun j => (w.cell? ⟨g, off + j, none⟩).getD undef
        have hvs : ∀ (j : Nat) u, vs[j]? = some u → j < ti.size ∧ w.cell? ⟨g, off + j, none⟩ = some u := by
          intro j u hu
          simp only [vs, List.getElem?_map, Option.map_eq_some_iff] at hu
          obtain ⟨k, hk, rfl⟩ := hu
          have hlt := lt_of_get hk
          simp only [List.length_range] at hlt
          rw [List.getElem?_range hlt] at hk
          cases hk
          obtain ⟨c, u, _, h2, _⟩ := hget j hlt
          exact ⟨hlt, by rw [h2]; rfl⟩
        refine ⟨rfl, .agg vs.toArray, run_loadVar_mid w g off t vs ti.und (fun j u hu => (hvs j u hu).2) ht.und (isRow_of hg) (by rw [ht.sizeMap]; simp [vs]), ?_⟩
        refine mkA_rv (by simp [vs, e1]) h1 fun j c u hcj huj => ?_
        obtain ⟨hlt, h2⟩ := hvs j u (by simpa using huj)
        obtain ⟨c', u', g1, g2, g3⟩ := hget j hlt
        rw [hcj] at g1; rw [h2] at g2
        cases g1; cases g2
        exact g3
      · cases ho
    · cases ho

theorem loadMany {t : TypeId} {ti : TI} (ht : TyOk P t ti) {cs : List D} {g o : Nat}
    (hc : ∀ (j : Nat) c, cs[j]? = some c → ∃ u, w.cell? ⟨g, o + j, none⟩ = some u ∧ Rep w A c u) : ∀ (l : List D) (k : Nat), isAggT ti.und = true → l.length = ti.size → (∀ c ∈ l, c.one = true) → (∀ j, j < ti.size → l[j]? = cs[k + j]?) →
      ∃ u, (loadVar t ⟨g, o + k, none⟩).run P w = .ok u w ∧ RV L w A (.d (.agg l)) u := by
  intro l k hg hl ho1 hlk
  have hget : ∀ j, j < ti.size → ∃ c u, l[j]? = some c ∧ w.cell? ⟨g, o + k + j, none⟩ = some u ∧ Rep w A c u := by
    intro j hj
    have hlj : l[j]? = some (l[j]'(by omega)) := List.getElem?_eq_getElem (by omega)
    have := hlk j hj
    rw [hlj] at this
    obtain ⟨u, h1, h2⟩ := hc (k + j) _ this.symm
    exact ⟨_, u, hlj, by rw [Nat.add_assoc]; exact h1, h2⟩
  let vs : List Value := (List.range ti.size).map fun j => (w.cell? ⟨g, o + k + j, none⟩).getD undef
  have hvs : ∀ (j : Nat) u, vs[j]? = some u → j < ti.size ∧ w.cell? ⟨g, o + k + j, none⟩ = some u := by
    intro j u hu
    simp only [vs, List.getElem?_map, Option.map_eq_some_iff] at hu
    obtain ⟨i, hk, rfl⟩ := hu
    have hlt := lt_of_get hk
    simp only [List.length_range] at hlt
    rw [List.getElem?_range hlt] at hk
    cases hk
    obtain ⟨c, u, _, h2, _⟩ := hget j hlt
    exact ⟨hlt, by rw [h2]; rfl⟩
  refine ⟨.agg vs.toArray, run_loadVar_mid w g (o + k) t vs ti.und (fun j u hu => (hvs j u hu).2) ht.und (isRow_of hg) (by rw [ht.sizeMap]; simp [vs]), ?_⟩
  refine .d (.agg (by simp [vs, hl]) ho1 fun j c u hcj huj => ?_)
  obtain ⟨hlt, h2⟩ := hvs j u (by simpa using huj)
  obtain ⟨c', u', g1, g2, g3⟩ := hget j hlt
  rw [hcj] at g1; rw [h2] at g2
  cases g1; cases g2
  exact g3
theorem loadD_sound {t : TypeId} {ti : TI} (ht : TyOk P t ti) {cs : List D} {off g o : Nat} {v : AV} {ups} (ho : Out P oc (loadD ti cs off) v ups) (h1 : ∀ c ∈ cs, c.one = true)
    (hc : ∀ (j : Nat) c, cs[j]? = some c → ∃ u, w.cell? ⟨g, o + j, none⟩ = some u ∧ Rep w A c u) : ups = [] ∧ ∃ u, (loadVar t ⟨g, o + off, none⟩).run P w = .ok u w ∧ RV L w A v u := by
  have many := loadMany (L := L) ht hc
  unfold loadD at ho
  split at ho
  · rename_i hg
    split at ho
    · rename_i c hcs
      cases ho
      obtain ⟨u, h1, h2⟩ := hc off _ hcs
      exact ⟨rfl, u, run_loadVar_one ht hg h1, .d h2⟩
    · cases ho
  · rename_i hg
    split at ho
    · cases ho with
      | need hp ho =>
        cases ho
        exact ⟨rfl, many cs 0 hg hp h1 fun j hj => by simp⟩
    · split at ho
      · rename_i l hl
        cases ho
        obtain ⟨e1, e2, e3⟩ := subL_spec _ _ _ _ hl
        refine ⟨rfl, many l _ hg e1 (fun c hc => ?_) e3⟩
        obtain ⟨j, hj⟩ := List.getElem?_of_mem hc
        have hlt := lt_of_get hj
        rw [e3 j (by omega)] at hj
        exact h1 c (List.mem_of_getElem? hj)
      · cases ho

theorem loadR_sound {t : TypeId} {ti : TI} (ht : TyOk P t ti) {cs : List D} {off g o : Nat} {v : AV} {ups} (ho : Out P oc (loadR ti cs off) v ups) (h1 : ∀ c ∈ cs, c.one = true)
    (hc : ∀ (j : Nat) c, cs[j]? = some c → ∃ u, w.cell? ⟨g, o + j, none⟩ = some u ∧ Rep w A c u) : ups = [] ∧ ∃ u, (loadVar t ⟨g, o + off, none⟩).run P w = .ok u w ∧ RV L w A v u := by
  unfold loadR at ho
  split at ho
  · split at ho
    · rename_i hg
      split at ho
      · rename_i l hl
        cases ho
        obtain ⟨e1, e2, e3⟩ := subL_spec _ _ _ _ hl
        refine ⟨rfl, loadMany (L := L) ht hc l _ hg e1 (fun c hc' => ?_) e3⟩
        obtain ⟨j, hj⟩ := List.getElem?_of_mem hc'
        have hlt := lt_of_get hj
        rw [e3 j (by omega)] at hj
        exact h1 c (List.mem_of_getElem? hj)
      · cases ho
    · cases ho
  · exact loadD_sound ht ho h1 hc

/-- Where the elements of a row lie. -/
theorem row_cells (h : Inv w0 A0 N L A T B a w) {b et sz : Nat} {es : List D} {fz : Bool} (hx : B b = some (.row et sz es fz)) {i : Nat} {e : D} (he : es[i]? = some e) :
    ∃ cap cur, L.hd b = .slice (some ⟨L.ι b, 0, none⟩) es.length cap ∧ w.heap[L.ι b]? = some (.cells cur et (0, 0)) ∧ cur.size = cap * sz ∧ es.length ≤ cap ∧ e.cells.length = sz ∧ e.flat = true ∧
      ∀ (j : Nat) c, e.cells[j]? = some c → ∃ u, w.cell? ⟨L.ι b, i * sz + j, none⟩ = some u ∧ Rep w A c u := by
  obtain ⟨xs, ⟨hl, hr⟩, h2, h3, h4, h5⟩ := h.bxs b _ hx
  have hi := lt_of_get he
  rcases hr with ⟨hn, h0⟩ | ⟨g, cap, cur, hv, _, hh, hcap, _, hcur, htake⟩
  · omega
  · have hgι : g = L.ι b := h4 g (by rw [hv]; rfl)
    subst hgι
    refine ⟨cap, cur, hv, hh, hcur, hcap, (h2 i e he).1, (h2 i e he).2, fun j c hc => ?_⟩
    have hj : j < sz := by rw [← (h2 i e he).1]; exact lt_of_get hc
    have hlt : i * sz + j < es.length * sz := by
      have : (i + 1) * sz ≤ es.length * sz := Nat.mul_le_mul_right _ hi
      rw [Nat.add_mul] at this
      omega
    have hx' : xs[i * sz + j]? = some (xs[i * sz + j]'(by omega)) := List.getElem?_eq_getElem (by omega)
    refine ⟨_, ?_, h3 i e j c _ he hc hx'⟩
    rw [cell_of_row w (L.ι b) _ cur et (0, 0) hh, ← Array.getElem?_toList, ← hx', ← htake, List.getElem?_take, if_pos hlt]

theorem rv_ref {cs : List D} {off : Nat} {u : Value} (h : RV L w A (.d (.ref cs off)) u) : ∃ (g o : Nat) (uu : Nat → Value), u = .pointer (some ⟨g, o + off, none⟩) ∧ (∀ c ∈ cs, c.one = true) ∧
    (∀ (j : Nat) c, cs[j]? = some c → A g (o + j) ∧ w.cell? ⟨g, o + j, none⟩ = some (uu j)) ∧ (∀ (j : Nat) c, cs[j]? = some c → Rep w A c (uu j)) := by
  cases rv_d h with
  | ref g o u h1 hc hr => exact ⟨g, o, u, rfl, h1, hc, hr⟩
theorem flat_one {e : D} (h : e.flat = true) : ∀ c ∈ e.cells, c.one = true := by
  cases e with
  | agg cs => simpa [D.flat, D.cells] using h
  | tup cs => cases h
  | _ => intro c hc; simp only [D.cells, List.mem_singleton] at hc; subst hc; rfl

theorem rv_sptr {b sz i j : Nat} {u : Value} (h : RV L w A (.sptr b sz i j) u) : u = .pointer (some ⟨L.ι b, i * sz + j, none⟩) := by cases h; rfl
theorem rv_mp {b : Nat} {u : Value} (h : RV L w A (.mp b) u) : u = .map (some (L.ι b)) := by cases h; rfl
theorem rv_sub {b v i : Nat} {u : Value} (h : RV L w A (.sub b v i) u) : u = L.sub b v i := by cases h; rfl
theorem rv_mptr {b v i j : Nat} {u : Value} (h : RV L w A (.mptr b v i j) u) : ∃ g, (L.sub b v i).ownBlock = some g ∧ u = .pointer (some ⟨g, j, none⟩) := by
  cases h with | mptr _ _ _ _ g hg hv => exact ⟨g, hg, rfl⟩
theorem one_cells {e : D} (h : e.one = true) : e.cells = [e] ∧ e.flat = true := by cases e <;> first | exact ⟨rfl, rfl⟩ | cases h
/-- An inner row of a matrix. -/
theorem mat_row (h : Inv w0 A0 N L A T B a w) {b et ie v : Nat} {rows : List (Option (List D))} (hx : B b = some (.mat et ie v rows)) {i : Nat} {es : List D} (hi : rows[i]? = some (some es)) :
    inRow w0.B0 w A ie (L.sub b v i) es := by
  obtain ⟨xs, _, _, _, h4, _⟩ := h.bxs b _ hx
  exact (h4 i es hi).2
/-- A header in a matrix. -/
theorem mat_hd (h : Inv w0 A0 N L A T B a w) {b et ie v : Nat} {rows : List (Option (List D))} (hx : B b = some (.mat et ie v rows)) {i : Nat} {es : List D} (hi : rows[i]? = some (some es)) :
    w.cell? ⟨L.ι b, i, none⟩ = some (L.sub b v i) := by
  obtain ⟨xs, h1, h2, _, h4, _⟩ := h.bxs b _ hx
  have hk := (h4 i es hi).1
  cases hob : (L.hd b).ownBlock with
  | none =>
    have := (ownBlock_none h1 hob).2
    rw [List.eq_nil_of_length_eq_zero this] at hi
    simp at hi
  | some g =>
    have := h2 g hob
    subst this
    obtain ⟨cap, _, _, _, hc⟩ := ownsRow_cells h1 hob
    exact hc i _ hk

theorem s_load (hS : TysOk P S) {dst type pos after guard} (t : TypeId) (x : Operand) : Sound P S ⟨dst, .load t x, type, pos, after, guard⟩ := by
  refine ⟨?_⟩
  intro w0 A0 N L A T B a w v ups T1 B1 T2 K Q oc dr hoc hI ho hu hp hK
  have hx := ev_rv hI x
  simp only [eff] at ho
  split at ho
  · rename_i ti ht
    have ht := hS _ _ ht
    have fin' : ∀ g o, a.eval x = .pointer (some ⟨g, o, none⟩) → (ups = [] ∧ ∃ u, (loadVar t ⟨g, o, none⟩).run P w = .ok u w ∧ RV L w A v u) → Oper.wp P ⟨dst, .load t x, type, pos, after, guard⟩ a w K Q := by
      rintro g o hv ⟨rfl, u, h1, h2⟩
      exact pureV hI (by simp [execOp, Instr.loadAt, Instr.sureAddr, hv, h1]) h2 hu hp hK
    split at ho
    · rename_i b off hb
      rw [hb] at hx
      have hx := rv_ptr hx
      split at ho
      · rename_i cs fz hbx
        obtain ⟨C, et, h1, h2, h3, _⟩ := hI.bxs b _ hbx
        refine fin' _ _ hx (loadL_sound ht ho fun j c hc => ?_)
        obtain ⟨u, hu⟩ := arr_get (C := C) (j := j) (by rw [h2]; exact lt_of_get hc)
        exact ⟨u, by rw [cell_of_row w (L.ι b) j C et (0, 0) h1]; exact hu, h3 j c u hc hu⟩
      · rename_i es fz hbx
        obtain ⟨C, et, h1, h2, h3, h4, _⟩ := hI.bxs b _ hbx
        split at ho
        · have hg : isAggT ti.und = true := by assumption
          cases ho with
          | need hn ho =>
            cases ho
            have hl := loadD_sound (oc := none) (P := P) (w := w) (A := A) (L := L) (t := t) (ti := ti) (off := 0) (o := 0) (g := L.ι b) (v := .d (.agg es)) (ups := []) ht (by
              unfold loadD
              rw [hg]
              exact .need hn (.ok _ _)) h3 fun j c hc => by
                obtain ⟨u, hu⟩ := arr_get (C := C) (j := j) (by rw [h2]; exact lt_of_get hc)
                exact ⟨u, by rw [cell_of_row w (L.ι b) _ C et (0, 0) h1, Nat.zero_add]; exact hu, h4 j c u hc hu⟩
            exact fin' _ _ hx hl
        · cases ho
      · cases ho
    · rename_i b sz i off hb
      rw [hb] at hx
      have hx := rv_eptr hx
      split at ho
      · rename_i et sz' es fz hbx
        split at ho
        · rename_i hsz
          have hsz := Nat.eq_of_beq_eq_true hsz
          subst hsz
          cases ho with
          | pick he ho =>
            obtain ⟨cap, cur, g1, g2, g3, g4, g5, g6, g7⟩ := row_cells hI hbx he
            exact fin' _ _ hx (loadD_sound ht ho (flat_one g6) g7)
        · cases ho
      · rename_i et ie vv rows hbx
        split at ho
        · have hg : isAggT ti.und = false := by assumption
          cases ho with
          | pickR he ho =>
            cases ho
            refine fin' _ _ hx ⟨rfl, _, run_loadVar_one ht hg (by rw [Nat.mul_one, Nat.add_zero]; exact mat_hd hI hbx he), ?_⟩
            obtain ⟨_, _, _, h3, _⟩ := hI.bxs b _ hbx
            exact .sub _ _ _ (mat_row hI hbx he).1 (Nat.le_of_eq h3)
        · cases ho
      · cases ho
    · rename_i b vv i j hb
      rw [hb] at hx
      obtain ⟨g, hg1, hx⟩ := rv_mptr hx
      split at ho
      · cases ho
      · rename_i hg
        split at ho
        · rename_i et ie vv' rows hbx
          cases ho with
          | need hv ho =>
            subst hv
            cases ho with
            | pickR he ho =>
              cases ho with
              | pick he' ho =>
                obtain ⟨_, ys, k1, k2, k3⟩ := mat_row hI hbx he
                obtain ⟨cap, _, _, kl, kc⟩ := ownsRow_cells k1 hg1
                have hlt := lt_of_get he'
                obtain ⟨hsz, hfl⟩ := k2 _ _ he'
                refine fin' _ _ hx (loadD_sound (o := j) ht ho (flat_one hfl) fun j' c hc => ?_)
                have hj' : j' = 0 := by have := lt_of_get hc; omega
                subst hj'
                have hy := List.getElem?_eq_getElem (l := ys) (i := j) (by omega)
                exact ⟨_, kc _ _ hy, k3 _ _ _ _ _ he' hc (by simp)⟩
        · cases ho
    · rename_i b sz i j hb
      rw [hb] at hx
      have hx := rv_sptr hx
      split at ho
      · cases ho
      · rename_i hg
        split at ho
        · rename_i es fz hbx
          obtain ⟨C, et, h1, h2, h3, h4, _⟩ := hI.bxs b _ hbx
          split at ho
          · cases ho with
            | pick he ho =>
              cases ho
              obtain ⟨u, hu⟩ := arr_get (C := C) (j := j) (by rw [h2]; exact lt_of_get he)
              refine fin' _ _ hx ⟨rfl, u, run_loadVar_one ht hg ?_, .d (h4 _ _ u he hu)⟩
              rw [cell_of_row w (L.ι b) _ C et (0, 0) h1, Nat.mul_zero, Nat.zero_add]
              exact hu
          · cases ho
        · rename_i et sz' es fz hbx
          split at ho
          · rename_i hsz
            have hsz := Nat.eq_of_beq_eq_true hsz
            subst hsz
            cases ho with
            | pick he ho =>
              cases ho with
              | pick he' ho =>
                cases ho
                obtain ⟨cap, cur, g1, g2, g3, g4, g5, g6, g7⟩ := row_cells hI hbx he
                obtain ⟨u, q1, q2⟩ := g7 _ _ he'
                exact fin' _ _ hx ⟨rfl, u, run_loadVar_one ht hg q1, .d q2⟩
          · cases ho
        · cases ho
    · rename_i cs off hb
      rw [hb] at hx
      obtain ⟨g, o, u, hv, h1, hc, hr⟩ := rv_ref hx
      exact fin' g (o + off) hv (loadR_sound ht ho h1 fun j c hj => ⟨u j, (hc j c hj).2, hr j c hj⟩)
    · cases ho
  · cases ho
end
end Go.Vm
