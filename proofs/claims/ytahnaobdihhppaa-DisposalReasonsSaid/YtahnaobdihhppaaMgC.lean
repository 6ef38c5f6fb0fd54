/- Texts VmG VmH, joined. -/
import Derived.Test.YtahnaobdihhppaaMgB
import Derived.Laws.IdiomStrings
section
/- Each operation, third part: stores, arithmetic, addresses, slices of strings and lists. -/
namespace Go.Vm
open Go.RowKit (Below)
section
variable {P : Program} {S : Tys} {oc : Option Orc}
variable {w0 : Ent} {A0 : Sta} {N : Nat} {L : Lay} {A : Sta} {T : Nat → AV} {B : Nat → Option Bx} {a : Act} {w : World}
theorem run_storeVar_at {t : TypeId} {ti : TI} (ht : TyOk P t ti) {g o et : Nat} {C : Array Value} {u : Value} (hg : w.heap[g]? = some (.cells C et (0, 0))) (hl : u.cells.size = ti.size)
    (hfit : o + u.cells.size ≤ C.size) (h1 : ∀ v ∈ u.cells.toList, v.oneCell' = true) :
    (storeVar t ⟨g, o, none⟩ u).run P w = .ok () (w.setRow g (C.toList.take o ++ u.cells.toList ++ C.toList.drop (o + u.cells.toList.length)).toArray) := by
  have h := run_storeCells_at (P := P) g o et u.cells.toList 0 C w hg (by simpa using hfit) h1
  simp only [Nat.add_zero] at h
  simp only [storeVar, Sem.run_bind, ht.run_size, Result.andThen_ok, hl, ne_eq, not_true_eq_false, if_false, h]

theorem upsOne {dst : Option Nat} {b : Nat} {x : Bx} {T1 : Nat → AV} {B1 : Nat → Option Bx} (h : UpsR dst [(b, some x)] T B T1 B1) (hb : B b ≠ none) :
    T1 = T ∧ B1 = upd B b (some x) ∧ ∀ b', Bx.men b' x = true → B b' ≠ none := by
  cases h with
  | set _ _ hm h => cases h; exact ⟨rfl, rfl, hm⟩
  | new _ _ hn => exact absurd hn hb

theorem undef_fin {dst : Option Nat} {T2 : Nat → AV} (h : Inv w0 A0 N L A T B a w) (hp : PutR N dst .undef T B T2) : Inv w0 A0 N L A T2 B (a.put dst undef) w := fin h .undef hp

/-- Some cells of a row are written. -/
theorem ownsRow_write {base e sz n : Nat} {v : Value} {xs : List Value} {g : Nat} (h : w.ownsRow base e sz v n xs) (hg : v.ownBlock = some g) (k : Nat) (news : List Value) (hfit : k + news.length ≤ n * sz) :
    ∃ cur, w.heap[g]? = some (.cells cur e (0, 0)) ∧ k + news.length ≤ cur.size ∧
      (w.setRow g (cur.toList.take k ++ news ++ cur.toList.drop (k + news.length)).toArray).ownsRow base e sz v n (xs.take k ++ news ++ xs.drop (k + news.length)) := by
  obtain ⟨hl, hr⟩ := h
  rcases hr with ⟨rfl, _⟩ | ⟨g', cap, cur, rfl, hlo, hh, hcap, hmx, hcur, htake⟩
  · simp [Value.ownBlock] at hg
  · simp only [Value.ownBlock, Option.some.injEq] at hg
    subst hg
    have hc : n * sz ≤ cap * sz := Nat.mul_le_mul_right _ hcap
    have hcl : cur.toList.length = cur.size := Array.length_toList
    have hfitC : k + news.length ≤ cur.toList.length := by omega
    refine ⟨cur, hh, by omega, ?_, .inr ⟨g', cap, (cur.toList.take k ++ news ++ cur.toList.drop (k + news.length)).toArray, rfl, hlo, setRow_heap _ _ _ _ _ _ hh, hcap, hmx, ?_, ?_⟩⟩
    · rw [spl_len (by omega)]; exact hl
    · simp only [List.size_toArray]
      rw [spl_len hfitC]
      rw [Array.length_toList]; exact hcur
    · apply List.ext_getElem?
      intro i
      have r1 := spl_get' (l := cur.toList) (vs := news) (off := k) (j := i) hfitC
      have r2 := spl_get' (l := xs) (vs := news) (off := k) (j := i) (by omega)
      rw [List.getElem?_take, r1, r2]
      split
      · rename_i hi
        split
        · rfl
        · rw [← htake, List.getElem?_take, if_pos hi]
      · rename_i hi
        rw [if_neg (by omega)]
        rw [List.getElem?_eq_none (by omega)]
theorem ownsRow_other {base e sz n : Nat} {v : Value} {xs : List Value} {g : Nat} {C : Array Value} (h : w.ownsRow base e sz v n xs) (hg : v.ownBlock ≠ some g) : (w.setRow g C).ownsRow base e sz v n xs :=
  ownsRow_world h fun k hk => setRow_other _ _ _ _ fun e => hg (by rw [← e]; exact hk)
theorem set_spl {α : Type} {l : List α} {j : Nat} {x : α} (h : j < l.length) : l.set j x = l.take j ++ [x] ++ l.drop (j + 1) := by
  rw [List.set_eq_take_append_cons_drop, if_pos h]; simp

/-- An array is written. -/
theorem arrWrite (hI : Inv w0 A0 N L A T B a w) {b : Nat} {es es' : List D} (hbx : B b = some (.arr es false)) (k : Nat) (ds : List D) (news : List Value) (hl : ds.length = news.length) (hfit : k + ds.length ≤ es.length)
    (he : es' = es.take k ++ ds ++ es.drop (k + ds.length)) (h1 : ∀ c ∈ ds, c.one = true) (hr : ∀ (j : Nat) c u, ds[j]? = some c → news[j]? = some u → Rep w A c u) :
    ∃ C t, w.heap[L.ι b]? = some (.cells C t (0, 0)) ∧ C.size = es.length ∧
      Inv w0 A0 N L A T (upd B b (some (.arr es' false))) a (w.setRow (L.ι b) (C.toList.take k ++ news ++ C.toList.drop (k + news.length)).toArray) := by
  obtain ⟨C, t, g1, g2, g3, g4, g5⟩ := hI.bxs b _ hbx
  refine ⟨C, t, g1, g2, hI.store hbx (fun g o hg => by rw [show g = L.ι b from hg]; exact g5 rfl o) rfl .rfl' rfl (by simp) (fun k hk => setRow_other _ _ _ _ hk) (fun _ => .rfl') (fun _ _ => rfl) ?_ (fun _ h => h) (fun b' hb' => (by cases hb'))⟩
  have hA : ∀ g o, A g o → (w.setRow (L.ι b) (C.toList.take k ++ news ++ C.toList.drop (k + news.length)).toArray).cell? ⟨g, o, none⟩ = w.cell? ⟨g, o, none⟩ := by
    intro g o hg
    refine cell_setRow_other _ _ _ _ ?_
    rintro rfl
    exact g5 rfl o hg
  have hfitC : k + news.length ≤ C.toList.length := by simp; omega
  refine ⟨_, t, setRow_heap _ _ _ _ _ _ g1, ?_, fun c hc => ?_, fun j c u hc hu => ?_, fun _ => g5 rfl⟩
  · simp only [List.size_toArray]
    rw [spl_len hfitC, he, spl_len hfit]
    simpa using g2
  · rw [he] at hc
    simp only [List.mem_append] at hc
    rcases hc with (hc | hc) | hc
    · exact g3 c (List.mem_of_mem_take hc)
    · exact h1 c hc
    · exact g3 c (List.mem_of_mem_drop hc)
  · simp only [List.getElem?_toArray] at hu
    rw [spl_get' hfitC, ← hl] at hu
    rw [he, spl_get' hfit] at hc
    split at hc
    · rename_i hin
      rw [if_pos hin] at hu
      exact (hr _ c u hc hu).frame (fun _ _ h => h) hA
    · rename_i hin
      rw [if_neg hin] at hu
      exact (g4 j c u hc (by simpa using hu)).frame (fun _ _ h => h) hA

/-- A cell of an element of a row is written. -/
theorem rowWrite (hI : Inv w0 A0 N L A T B a w) {b et sz : Nat} {es : List D} (hbx : B b = some (.row et sz es false)) {i j : Nat} {cs : List D} {x : D} {u : Value} (hi : es[i]? = some (.agg cs)) (hj : j < cs.length)
    (h1 : x.one = true) (hr : Rep w A x u) :
    ∃ C, w.heap[L.ι b]? = some (.cells C et (0, 0)) ∧ i * sz + j + 1 ≤ C.size ∧
      Inv w0 A0 N L A T (upd B b (some (.row et sz (es.set i (.agg (cs.set j x))) false))) a (w.setRow (L.ι b) (C.toList.take (i * sz + j) ++ [u] ++ C.toList.drop (i * sz + j + [u].length)).toArray) := by
  obtain ⟨xs, g1, g2, g3, g4, g5⟩ := hI.bxs b _ hbx
  have hlt := lt_of_get hi
  obtain ⟨hsz, hfl⟩ := g2 i _ hi
  simp only [D.cells] at hsz
  have hob : (L.hd b).ownBlock = some (L.ι b) := by
    cases hob : (L.hd b).ownBlock with
    | none => have := (ownBlock_none g1 hob).2; omega
    | some g => rw [g4 g hob]
  have hfit : i * sz + j + 1 ≤ es.length * sz := by
    have : (i + 1) * sz ≤ es.length * sz := Nat.mul_le_mul_right _ hlt
    rw [Nat.add_mul] at this; omega
  obtain ⟨C, q1, q2, q3⟩ := ownsRow_write g1 hob (i * sz + j) [u] (by simpa using hfit)
  simp only [List.length_singleton] at q2
  have hno : ∀ o, ¬ A (L.ι b) o := fun o ho => by have := (g5 (ownBlock_ne hob) o ho).1; cases this
  have hA : ∀ g' o, A g' o → (w.setRow (L.ι b) (C.toList.take (i * sz + j) ++ [u] ++ C.toList.drop (i * sz + j + [u].length)).toArray).cell? ⟨g', o, none⟩ = w.cell? ⟨g', o, none⟩ := by
    intro g' o hg'
    refine cell_setRow_other _ _ _ _ ?_
    rintro rfl
    exact hno o hg'
  refine ⟨C, q1, q2, hI.store hbx (fun k o hk => by rw [g4 k hk]; exact hno o) rfl .rfl' rfl (by simp) (fun k hk => setRow_other _ _ _ _ (by rintro rfl; exact hk hob)) (fun _ => .rfl') (fun _ _ => rfl) ?_ (fun _ h => h) (fun b' hb' => (by cases hb'))⟩
  have hxl : xs.length = es.length * sz := g1.1
  refine ⟨_, by rw [List.length_set]; exact q3, fun i' e he => ?_, fun i' e k c v he hc hv => ?_, g4, fun _ o ho => absurd ho (hno o)⟩
  · rw [List.getElem?_set] at he
    by_cases e1 : i = i'
    · subst e1
      rw [if_pos rfl, if_pos hlt] at he
      cases he
      refine ⟨by simpa [D.cells] using hsz, ?_⟩
      simp only [D.flat, List.all_eq_true]
      intro c hc
      rcases List.mem_or_eq_of_mem_set hc with h | h
      · exact flat_one hfl c h
      · rw [h]; exact h1
    · rw [if_neg e1] at he
      exact g2 i' e he
  · rw [spl_get' (by simp; omega)] at hv
    simp only [List.length_singleton] at hv
    rw [List.getElem?_set] at he
    by_cases e1 : i = i'
    · subst e1
      rw [if_pos rfl, if_pos hlt] at he
      cases he
      simp only [D.cells] at hc
      rw [List.getElem?_set] at hc
      by_cases e2 : j = k
      · subst e2
        rw [if_pos rfl, if_pos hj] at hc
        rw [if_pos (by omega), Nat.sub_self] at hv
        cases hc; cases hv
        exact hr.frame (fun _ _ h => h) hA
      · rw [if_neg e2] at hc
        rw [if_neg (by omega)] at hv
        exact (g3 i _ k c v hi hc hv).frame (fun _ _ h => h) hA
    · rw [if_neg e1] at he
      have hk : k < sz := by rw [← (g2 i' e he).1]; exact lt_of_get hc
      rw [if_neg] at hv
      · exact (g3 i' e k c v he hc hv).frame (fun _ _ h => h) hA
      · intro hin
        have hk' : i' * sz + k = i * sz + j := by omega
        rcases Nat.lt_or_ge i i' with h9 | h9
        · have : (i + 1) * sz ≤ i' * sz := Nat.mul_le_mul_right _ h9
          rw [Nat.add_mul] at this
          omega
        · have : (i' + 1) * sz ≤ i * sz := Nat.mul_le_mul_right _ (by omega)
          rw [Nat.add_mul] at this
          omega

/-- An element of an inner row of a matrix is written. -/
theorem matWrite (hI : Inv w0 A0 N L A T B a w) {b et ie v : Nat} {rows : List (Option (List D))} (hbx : B b = some (.mat et ie v rows)) {i j g : Nat} {es : List D} {x : D} {u : Value} (hi : rows[i]? = some (some es)) (hj : j < es.length)
    (hg : (L.sub b v i).ownBlock = some g) (h1 : x.one = true) (hr : Rep w A x u) :
    ∃ C, w.heap[g]? = some (.cells C ie (0, 0)) ∧ j + 1 ≤ C.size ∧
      Inv w0 A0 N L A T (upd B b (some (.mat et ie v (rows.set i (some (es.set j x)))))) a (w.setRow g (C.toList.take j ++ [u] ++ C.toList.drop (j + [u].length)).toArray) := by
  obtain ⟨xs, g1, g2, g3, g4, g5, g6, g7⟩ := hI.bxs b _ hbx
  obtain ⟨k1, k2, ys, k3, k4, k5⟩ := g4 i es hi
  obtain ⟨C, q1, q2, q3⟩ := ownsRow_write k3 hg j [u] (by simp; omega)
  simp only [List.length_singleton] at q2
  have hown : own L b (.mat et ie v rows) g := .inr ⟨i, es, hi, hg⟩
  have hlt := lt_of_get hi
  have hset : ∀ (i' : Nat) es', (rows.set i (some (es.set j x)))[i']? = some (some es') → (i' = i ∧ es' = es.set j x) ∨ (i' ≠ i ∧ rows[i']? = some (some es')) := by
    intro i' es' h
    rw [List.getElem?_set] at h
    by_cases e : i = i'
    · subst e
      rw [if_pos rfl, if_pos hlt] at h
      simp only [Option.some.injEq] at h
      exact .inl ⟨rfl, h.symm⟩
    · rw [if_neg e] at h
      exact .inr ⟨fun e' => e e'.symm, h⟩
  have old : ∀ (i' : Nat) es', (rows.set i (some (es.set j x)))[i']? = some (some es') → ∃ es'', rows[i']? = some (some es'') := by
    intro i' es' h
    rcases hset i' es' h with ⟨rfl, _⟩ | ⟨_, h⟩
    · exact ⟨_, hi⟩
    · exact ⟨_, h⟩
  have hsub : ∀ k, own L b (.mat et ie v (rows.set i (some (es.set j x)))) k → own L b (.mat et ie v rows) k := by
    rintro k (h | ⟨i', es', h, h'⟩)
    · exact .inl h
    · obtain ⟨es'', h2⟩ := old i' es' h
      exact .inr ⟨i', es'', h2, h'⟩
  have hA : ∀ g' o, A g' o → (w.setRow g (C.toList.take j ++ [u] ++ C.toList.drop (j + [u].length)).toArray).cell? ⟨g', o, none⟩ = w.cell? ⟨g', o, none⟩ := by
    intro g' o hg'
    refine cell_setRow_other _ _ _ _ ?_
    rintro rfl
    exact g7 _ hown o hg'
  refine ⟨C, q1, q2, hI.store hbx (fun k o hk => g7 k hk o) rfl .rfl' rfl (by simp) (fun k hk => setRow_other _ _ _ _ (by rintro rfl; exact hk hown)) (fun _ => .rfl') (fun _ _ => rfl) ?_ hsub (fun b' hb' => (by cases hb'))⟩
  refine ⟨xs, ?_, g2, g3, fun i' es' he => ?_, fun i1 i2 e1 e2 k h1 h2 h3 h4 => ?_, fun i' es' k he hk => ?_, fun k hk o => g7 k (hsub k hk) o⟩
  · rw [List.length_set]
    exact ownsRow_other g1 (g6 i es g hi hg)
  · rcases hset i' es' he with ⟨rfl, rfl⟩ | ⟨hne, he'⟩
    · refine ⟨k1, k2, ys.take j ++ [u] ++ ys.drop (j + [u].length), ?_, fun j' e he => ?_, fun j' e k c y he hc hy => ?_⟩
      · rw [List.length_set]; exact q3
      · rw [List.getElem?_set] at he
        by_cases e1 : j = j'
        · subst e1
          rw [if_pos rfl, if_pos hj] at he
          cases he
          obtain ⟨o1, o2⟩ := one_cells h1
          exact ⟨by rw [o1]; rfl, o2⟩
        · rw [if_neg e1] at he
          exact k4 j' e he
      · have hyl : ys.length = es.length := by rw [k3.1, Nat.mul_one]
        rw [spl_get' (by simp; omega)] at hy
        simp only [List.length_singleton] at hy
        rw [List.getElem?_set] at he
        by_cases e1 : j = j'
        · subst e1
          rw [if_pos rfl, if_pos hj] at he
          cases he
          rw [(one_cells h1).1] at hc
          have hk : k = 0 := by have := lt_of_get hc; simpa using this
          subst hk
          simp only [List.getElem?_cons_zero, Option.some.injEq] at hc
          rw [if_pos (by omega), show j * 1 + 0 - j = 0 by omega] at hy
          cases hy; subst hc
          exact hr.frame (fun _ _ h => h) hA
        · rw [if_neg e1] at he
          have hk : k = 0 := by have := lt_of_get hc; rw [(k4 j' e he).1] at this; omega
          subst hk
          rw [if_neg (by omega)] at hy
          exact (k5 j' e 0 c y he hc hy).frame (fun _ _ h => h) hA
    · obtain ⟨m1, m2, ys', m3, m4, m5⟩ := g4 i' es' he'
      exact ⟨m1, m2, ys', ownsRow_other m3 fun h => hne (g5 i' i es' es g he' hi h hg), m4, fun j' e k c y he hc hy => (m5 j' e k c y he hc hy).frame (fun _ _ h => h) hA⟩
  · obtain ⟨e1', q1⟩ := old i1 e1 h1
    obtain ⟨e2', q2⟩ := old i2 e2 h2
    exact g5 i1 i2 _ _ k q1 q2 h3 h4
  · obtain ⟨e', q⟩ := old i' es' he
    exact g6 i' e' k q hk

/-- The layout with a new version of a matrix' headers. -/
def Lay.ver (L : Lay) (b v i : Nat) (u : Value) : Lay := { L with
  sub := fun b' v' i' => if b' = b then (if v' ≤ L.top b then L.sub b v' i' else if i' = i then u else L.sub b v i') else L.sub b' v' i'
  top := upd L.top b (L.top b + 1) }
theorem Lay.ver_eq {L : Lay} {b v i : Nat} {u : Value} (b' : Nat) : (L.ver b v i u).eqAt L b' := by
  refine ⟨rfl, rfl, ?_, fun v' hv i' => ?_⟩
  · by_cases e : b' = b
    · subst e; simp [Lay.ver]
    · simp [Lay.ver, upd_ne _ _ e]
  · by_cases e : b' = b
    · subst e; simp [Lay.ver, hv]
    · simp [Lay.ver, e]

theorem Lay.ver_top {L : Lay} {b v i : Nat} {u : Value} {b' : Nat} (h : b' ≠ b) : (L.ver b v i u).top b' = L.top b' := upd_ne _ _ h
theorem Lay.ver_new {L : Lay} {b v i : Nat} {u : Value} (h : v = L.top b) (i' : Nat) : (L.ver b v i u).sub b (v + 1) i' = if i' = i then u else L.sub b v i' := by
  simp only [Lay.ver, if_true]
  rw [if_neg (by omega)]

/-- A header in a matrix is written: an inner row comes that nobody claims. -/
theorem matHead (hI : Inv w0 A0 N L A T B a w) {b et ie v : Nat} {rows : List (Option (List D))} (hbx : B b = some (.mat et ie v rows)) {i : Nat} {es : List D} {u : Value} (hi : i < rows.length)
    (hrow : inRow w0.B0 w A ie u es) (hnew : ∀ g, u.ownBlock = some g → (w0.own g ∧ g < w.heap.size) ∧ (∀ b' x', B b' = some x' → ¬ own L b' x' g) ∧ ∀ o, ¬ A g o) :
    ∃ C, w.heap[L.ι b]? = some (.cells C et (0, 0)) ∧ i + 1 ≤ C.size ∧
      Inv w0 A0 N (L.ver b v i u) A T (upd B b (some (.mat et ie (v + 1) (rows.set i (some es))))) a (w.setRow (L.ι b) (C.toList.take i ++ [u] ++ C.toList.drop (i + [u].length)).toArray) := by
  obtain ⟨xs, g1, g2, g3, g4, g5, g6, g7⟩ := hI.bxs b _ hbx
  have hob : (L.hd b).ownBlock = some (L.ι b) := by
    cases hob : (L.hd b).ownBlock with
    | none => have := (ownBlock_none g1 hob).2; omega
    | some g => rw [g2 g hob]
  obtain ⟨C, q1, q2, q3⟩ := ownsRow_write g1 hob i [u] (by simp; omega)
  simp only [List.length_singleton] at q2
  have hown : own L b (.mat et ie v rows) (L.ι b) := .inl hob
  have hune : u.ownBlock ≠ some (L.ι b) := fun h => (hnew _ h).2.1 b _ hbx hown
  have hsub := fun i' => Lay.ver_new (L := L) (b := b) (i := i) (u := u) g3 i'
  have hset : ∀ (i' : Nat) es', (rows.set i (some es))[i']? = some (some es') → (i' = i ∧ es' = es) ∨ (i' ≠ i ∧ rows[i']? = some (some es')) := by
    intro i' es' h
    rw [List.getElem?_set] at h
    by_cases e : i = i'
    · subst e
      rw [if_pos rfl, if_pos hi] at h
      simp only [Option.some.injEq] at h
      exact .inl ⟨rfl, h.symm⟩
    · rw [if_neg e] at h
      exact .inr ⟨fun e' => e e'.symm, h⟩
  have hA : ∀ g' o, A g' o → (w.setRow (L.ι b) (C.toList.take i ++ [u] ++ C.toList.drop (i + [u].length)).toArray).cell? ⟨g', o, none⟩ = w.cell? ⟨g', o, none⟩ := by
    intro g' o hg'
    refine cell_setRow_other _ _ _ _ ?_
    rintro rfl
    exact g7 _ hown o hg'
  have hclaim : ∀ g, own (L.ver b v i u) b (.mat et ie (v + 1) (rows.set i (some es))) g → own L b (.mat et ie v rows) g ∨ u.ownBlock = some g := by
    rintro g (h | ⟨i', es', h, h'⟩)
    · exact .inl (.inl h)
    · rw [hsub] at h'
      rcases hset i' es' h with ⟨rfl, _⟩ | ⟨hne, h⟩
      · rw [if_pos rfl] at h'; exact .inr h'
      · rw [if_neg hne] at h'; exact .inl (.inr ⟨i', es', h, h'⟩)
  refine ⟨C, q1, q2, hI.turns (fun b' => b' = b) (fun g => own L b (.mat et ie v rows) g ∨ u.ownBlock = some g) rfl .rfl' rfl (by simp) (fun g hg => ?_) (fun g b' x' hg hk hx' ho => ?_)
    (fun k _ hk => setRow_other _ _ _ _ fun e => hk (.inl (e ▸ hown))) hA (fun _ _ h => h) (fun g o hg => by simpa using hI.Aok g o hg) (fun _ _ h => .inl h) (fun b' _ => Lay.ver_eq b') (fun b' hb' _ => Lay.ver_top hb') (fun b' hb' => upd_ne _ _ hb')
    (fun b' hb' => ?_) (fun b' _ hb' => ?_) ?_ ?_ ?_⟩
  · rcases hg with hg | hg
    · simpa using hI.lo b _ g hbx hg
    · simpa using (hnew g hg).1
  · rcases hg with hg | hg
    · exact hk (hI.inj b' b x' _ g hx' hbx ho hg)
    · exact (hnew g hg).2.1 b' x' hx' ho
  · by_cases e : b' = b
    · subst e; rw [upd_same]; simp
    · rwa [upd_ne _ _ e]
  · by_cases e : b' = b
    · subst e; rw [hbx]; simp
    · rwa [upd_ne _ _ e] at hb'
  · rintro b' y rfl hy
    rw [upd_same] at hy; cases hy
    refine ⟨⟨xs.take i ++ [u] ++ xs.drop (i + [u].length), ?_, g2, ?_, fun i' es' he => ?_, fun i1 i2 e1 e2 k h1 h2 h3 h4 => ?_, fun i' es' k he hk => ?_, fun k hk o => ?_⟩, hclaim⟩
    · rw [List.length_set]; exact q3
    · simp [Lay.ver, g3]
    · have hxl : xs.length = rows.length := by rw [g1.1, Nat.mul_one]
      rw [hsub, spl_get' (by simp; omega)]
      simp only [List.length_singleton]
      rcases hset i' es' he with ⟨rfl, rfl⟩ | ⟨hne, he'⟩
      · rw [if_pos (by omega), if_pos rfl]
        refine ⟨by simp, inRow_keep hrow (fun _ _ h => h) hA fun g hg => setRow_other _ _ _ _ fun e => hune (e ▸ hg)⟩
      · rw [if_neg (by omega), if_neg hne]
        obtain ⟨m1, m2⟩ := g4 i' es' he'
        exact ⟨m1, inRow_keep m2 (fun _ _ h => h) hA fun g hg => setRow_other _ _ _ _ fun e => g6 i' es' g he' hg (e ▸ hob)⟩
    · rw [hsub] at h3 h4
      rcases hset i1 e1 h1 with ⟨rfl, _⟩ | ⟨n1, m1⟩
      · rcases hset i2 e2 h2 with ⟨rfl, _⟩ | ⟨n2, m2⟩
        · rfl
        · rw [if_pos rfl] at h3
          rw [if_neg n2] at h4
          exact absurd (.inr ⟨i2, e2, m2, h4⟩) ((hnew k h3).2.1 b' _ hbx)
      · rw [if_neg n1] at h3
        rcases hset i2 e2 h2 with ⟨rfl, _⟩ | ⟨n2, m2⟩
        · rw [if_pos rfl] at h4
          exact absurd (.inr ⟨i1, e1, m1, h3⟩) ((hnew k h4).2.1 b' _ hbx)
        · rw [if_neg n2] at h4
          exact g5 i1 i2 e1 e2 k m1 m2 h3 h4
    · rw [hsub] at hk
      rcases hset i' es' he with ⟨rfl, _⟩ | ⟨hne, he'⟩
      · rw [if_pos rfl] at hk
        intro hh
        exact (hnew k hk).2.1 b' _ hbx (.inl hh)
      · rw [if_neg hne] at hk
        exact g6 i' es' k he' hk
    · rcases hclaim k hk with h | h
      · exact g7 k h o
      · exact (hnew k h).2.2 o
  · rintro b1 b2 x1 x2 g rfl rfl _ _ _ _; rfl
  · rintro b' y b'' rfl hy hm
    rw [upd_same] at hy; cases hy
    cases hm

theorem rv_own1 {b sz n : Nat} {u : Value} (h : RV L w A (.own b sz n) u) : Vm.oneV (L.hd b) = true := by cases h; assumption
theorem matAt_spec {p : AV} {b et ie v i : Nat} {rows : List (Option (List D))} (h : matAt B p = some (b, et, ie, v, rows, i)) : p = .eptr b 1 i 0 ∧ B b = some (.mat et ie v rows) := by
  unfold matAt at h
  split at h
  · split at h
    · split at h
      · rename_i hb
        simp only [Option.some.injEq, Prod.mk.injEq] at h
        obtain ⟨rfl, rfl, rfl, rfl, rfl, rfl⟩ := h
        exact ⟨rfl, hb⟩
      · cases h
    · cases h
  · cases h
theorem killB_other {b b' : Nat} {x : Bx} (h : B b' = some x) (hne : b' ≠ b) (hx : pgX b x = x) : killB B b b' = some x := by
  unfold killB
  rw [if_neg hne, h, Option.map_some, hx]
theorem killB_inv {b b' : Nat} {x' : Bx} (h : killB B b b' = some x') : b' ≠ b ∧ ∃ x, B b' = some x ∧ ∀ (L : Lay) g, own L b' x' g ↔ own L b' x g := by
  unfold killB at h
  by_cases e : b' = b
  · rw [if_pos e] at h; cases h
  · rw [if_neg e, Option.map_eq_some_iff] at h
    obtain ⟨x, hx, rfl⟩ := h
    exact ⟨e, x, hx, fun L g => own_pgX⟩

theorem s_store (hS : TysOk P S) {dst type pos after guard} (t : TypeId) (x y : Operand) : Sound P S ⟨dst, .store t x y, type, pos, after, guard⟩ := by
  refine ⟨?_⟩
  intro w0 A0 N L A T B a w v ups T1 B1 T2 K Q oc dr hoc hI ho hu hp hK
  have hx := ev_rv hI x
  have hy := resz_rv (S := S) (t := t) (ev_rv hI y)
  simp only [eff] at ho
  split at ho
  · rename_i ti ht
    have ht := hS _ _ ht
    split at ho
    · rename_i n hbig
      unfold stBig at ho
      split at ho
      · rename_i b l hxv hyv
        rw [hxv] at hx
        have hx := rv_ptr hx
        have hyr : RV L w A (.d (.agg l)) (a.eval y) := by rw [← hyv]; exact ev_rv hI y
        split at ho
        · rename_i es hbx
          cases ho with
          | need hn ho =>
            cases ho
            obtain ⟨n1, n2, n3⟩ := hn
            generalize hev : a.eval y = u at hyr
            cases hyr with
            | d hyr =>
              cases hyr with
              | @agg _ vs q1 q2 q3 =>
                obtain ⟨rfl, rfl, hm⟩ := upsOne hu (by rw [hbx]; simp)
                obtain ⟨C, et, c1, c2, hI'⟩ := arrWrite (es' := l) hI hbx 0 l vs.toList (by simpa using q1) (by omega) (by simp [show es.length ≤ l.length by omega]) q2 (fun j c u h h' => q3 j c u h (by simpa using h'))
                have hrun := run_storeVar_at (P := P) (w := w) (u := .agg vs) ht (o := 0) c1 (by simp [Value.cells]; omega) (by simp [Value.cells]; omega) (fun v hv => by
                  simp only [Value.cells] at hv
                  obtain ⟨j, hj⟩ := List.getElem?_of_mem hv
                  have hlt := lt_of_get hj
                  have hc : l[j]? = some (l[j]'(by simp at hlt; omega)) := List.getElem?_eq_getElem _
                  exact (q3 j _ v hc (by simpa using hj)).oneV (q2 _ (List.mem_of_getElem? hc)))
                refine zskip ?_ (hK _ _ _ _ (undef_fin hI' hp))
                simp only [Value.cells] at hrun
                simp [execOp, Instr.storeAt, Instr.sureAddr, hx, hev, hrun]
        · cases ho
      · cases ho
    split at ho
    · rename_i q hmat
      obtain ⟨b, et, ie, v, rows, i⟩ := q
      obtain ⟨hxv, hbx⟩ := matAt_spec hmat
      have hx := ev_rv hI x
      rw [hxv] at hx
      have hx := rv_eptr hx
      have run : ∀ (C : Array Value) (u : Value), a.eval y = u → ti.size = 1 → u.oneCell' = true → w.heap[L.ι b]? = some (.cells C et (0, 0)) → i + 1 ≤ C.size →
          (execOp a.eval ⟨dst, .store t x y, type, pos, after, guard⟩).run P w = .ok .skip (w.setRow (L.ι b) (C.toList.take i ++ [u] ++ C.toList.drop (i + [u].length)).toArray) := by
        intro C u hu h1 h2 hC hlt
        have hcells : u.cells = #[u] := by cases u <;> first | rfl | cases h2
        have hrun := run_storeVar_at (P := P) (w := w) (u := u) ht (o := i) hC (by rw [hcells, h1]; rfl) (by rw [hcells]; exact hlt) (by rw [hcells]; intro v hv; simp at hv; rw [hv]; exact h2)
        rw [hcells] at hrun
        simp only [Nat.mul_one, Nat.add_zero] at hx
        simp only [execOp, Instr.storeAt, Instr.sureAddr, hx, hu, Sem.run_bind, Sem.run_pure, Result.andThen_ok]
        rw [hrun]
        rfl
      unfold stMat at ho
      split at ho
      · rename_i c sz n hq hg hyv
        simp only [Prod.mk.injEq] at hq
        obtain ⟨rfl, rfl, rfl, rfl, rfl, rfl⟩ := hq
        have hy' := ev_rv hI y
        rw [hyv] at hy'
        have hone := rv_own1 hy'
        have hy' := rv_own hy'
        split at ho
        · rename_i ie' es hcx
          split at ho
          · rename_i e1 e2
            have e1 := Nat.eq_of_beq_eq_true e1
            have e2 := Nat.eq_of_beq_eq_true e2
            subst e1; subst e2
            cases ho with
            | need hn ho =>
              cases ho
              obtain ⟨n1, n2⟩ := hn
              have hbc : b ≠ c := by rintro rfl; rw [hbx] at hcx; cases hcx
              cases hu with
              | kill hu =>
                obtain ⟨rfl, rfl, _⟩ := upsOne hu (by rw [killB_other hbx hbc rfl]; simp)
                obtain ⟨ys, c1, c2, c3, c4, c5⟩ := hI.bxs c _ hcx
                have hrow : inRow w0.B0 w A ie' (L.hd c) es := by
                  exact ⟨hone, ys, c1, c2, c3⟩
                have hnew : ∀ g, (L.hd c).ownBlock = some g → (w0.own g ∧ g < w.heap.size) ∧ (∀ b' x', killB B c b' = some x' → ¬ own L b' x' g) ∧ ∀ o, ¬ A g o := by
                  refine fun g hg => ⟨hI.lo c _ g hcx hg, fun b' x' hx' ho => ?_, fun o ho => ?_⟩
                  · obtain ⟨h1, x1, h2, h3⟩ := killB_inv hx'
                    exact h1 (hI.inj b' c x1 _ g h2 hcx ((h3 L g).1 ho) hg)
                  · have hne := ownBlock_ne hg
                    have e := c4 g hg
                    subst e
                    have := (c5 hne o ho).1
                    cases this
                obtain ⟨C, k1, k2, k3⟩ := matHead (hI.kill c) (killB_other hbx hbc rfl) n2 hrow hnew
                exact zskip (run C _ hy' n1 hone k1 k2) (hK _ _ _ _ (undef_fin k3 hp))
          · cases ho
        · cases ho
      · rename_i k hq hg hyv
        simp only [Prod.mk.injEq] at hq
        obtain ⟨rfl, rfl, rfl, rfl, rfl, rfl⟩ := hq
        have hy' := ev_rv hI y
        rw [hyv] at hy'
        have hy' := rv_nil hy'
        cases ho with
        | need hn ho =>
          cases ho
          obtain ⟨n1, n2⟩ := hn
          obtain ⟨rfl, rfl, _⟩ := upsOne hu (by rw [hbx]; simp)
          obtain ⟨C, k1, k2, k3⟩ := matHead (u := .slice none 0 0) (es := []) hI hbx n2 ⟨rfl, [], ⟨by simp, .inl ⟨rfl, rfl⟩⟩, by simp, by simp⟩ (fun g hg => by simp [Value.ownBlock] at hg)
          exact zskip (run C _ hy' n1 rfl k1 k2) (hK _ _ _ _ (undef_fin k3 hp))
      · cases ho
    split at ho
    · rename_i l hl
      obtain ⟨hlc, hs⟩ := partC_cells hl
      obtain ⟨k1, k2, k3⟩ := hy.cells hs (partC_notTup hl hy)
      rw [← hlc] at k1 k2 k3
      have hone : ∀ v ∈ (a.eval y).cells.toList, v.oneCell' = true := by
        intro v hv
        obtain ⟨j, hj⟩ := List.getElem?_of_mem hv
        have hlt := lt_of_get hj
        have hc : l[j]? = some (l[j]'(by simp at hlt; omega)) := List.getElem?_eq_getElem _
        exact (k3 j _ v hc (by simpa using hj)).oneV (k2 _ (List.mem_of_getElem? hc))
      cases ho with
      | need hsz ho =>
        have hcs : (a.eval y).cells.size = ti.size := by rw [← k1]; exact hsz
        unfold stPart at ho
        split at ho
        · rename_i b off hb
          rw [hb] at hx
          have hx := rv_ptr hx
          split at ho
          · rename_i cs hbx
            split at ho
            · rename_i cs' hset
              cases ho
              obtain ⟨C, et, h1, h2, h3, h4⟩ := hI.bxs b _ hbx
              obtain ⟨e1, e2⟩ := setL_spec _ _ _ _ hset
              obtain ⟨rfl, rfl, hm⟩ := upsOne hu (by rw [hbx]; simp)
              have hrun := run_storeVar_at (w := w) ht (o := off) h1 hcs (by omega) hone
              have hfit : off + (a.eval y).cells.toList.length ≤ C.toList.length := by simp; omega
              have hI' := hI.store (w' := w.setRow (L.ι b) (C.toList.take off ++ (a.eval y).cells.toList ++ C.toList.drop (off + (a.eval y).cells.toList.length)).toArray) (x' := .var cs' false) hbx (fun g o hg => by rw [show g = L.ι b from hg]; exact h4 rfl o) rfl .rfl' rfl
                (by simp) (fun k hk => setRow_other _ _ _ _ hk) (fun _ => .rfl') (fun _ _ => rfl) ?_ (fun _ h => h) hm
              · refine zskip ?_ (hK _ _ _ _ (undef_fin hI' hp))
                simp [execOp, Instr.storeAt, Instr.sureAddr, hx, hrun]
              · have hA : ∀ g o, A g o → (w.setRow (L.ι b) (C.toList.take off ++ (a.eval y).cells.toList ++ C.toList.drop (off + (a.eval y).cells.toList.length)).toArray).cell? ⟨g, o, none⟩ = w.cell? ⟨g, o, none⟩ := by
                  intro g o hg
                  refine cell_setRow_other _ _ _ _ ?_
                  rintro rfl
                  exact h4 rfl o hg
                refine ⟨_, et, setRow_heap _ _ _ _ _ _ h1, ?_, fun j c u hc hu => ?_, fun _ => h4 rfl⟩
                · rw [e1, spl_len e2]
                  simp only [List.size_toArray]
                  rw [spl_len hfit]
                  simpa using h2
                · rw [e1, spl_get' e2] at hc
                  simp only [List.getElem?_toArray] at hu
                  rw [spl_get' hfit] at hu
                  have e3 : (a.eval y).cells.toList.length = l.length := by simp [k1]
                  rw [e3] at hu
                  split at hc
                  · rename_i hin
                    rw [if_pos hin] at hu
                    exact (k3 _ c u hc (by simpa using hu)).frame (fun _ _ h => h) hA fun _ _ => .rfl'
                  · rename_i hin
                    rw [if_neg hin] at hu
                    exact (h3 j c u hc (by simpa using hu)).frame (fun _ _ h => h) hA fun _ _ => .rfl'
            · cases ho
          · cases ho
        · rename_i b sz' i off hb
          rw [hb] at hx
          have hx := rv_eptr hx
          split at ho
          · rename_i et sz es hbx
            split at ho
            · rename_i ds hsz' hds
              have hsz' := Nat.eq_of_beq_eq_true hsz'
              subst hsz'
              have hds := allD_spec hds
              subst hds
              cases ho with
              | @pick _ _ _ e _ _ he ho =>
                obtain ⟨cap, cur, g1, g2, g3, g4, g5, g6, g7⟩ := row_cells hI hbx he
                obtain ⟨xs, ⟨hl1, hr⟩, h2, h3, h4, h5⟩ := hI.bxs b _ hbx
                have hi := lt_of_get he
                have hnn : L.hd b ≠ .slice none 0 0 := by rw [g1]; simp
                have hno : ∀ o, ¬ A (L.ι b) o := fun o ho => by have := (h5 hnn o ho).1; cases this
                -- the new element
                have key : ∀ e', e'.cells = e.cells.take off ++ ds ++ e.cells.drop (off + ds.length) → off + ds.length ≤ e.cells.length → e'.flat = true →
                    UpsR dst [(b, some (.row et sz' (es.set i e') false))] T B T1 B1 → PutR N dst .undef T1 B1 T2 →
                    Oper.wp P ⟨dst, .store t x y, type, pos, after, guard⟩ a w K Q := by
                  intro e' he' hfit hflat hu hp
                  obtain ⟨rfl, rfl, hm⟩ := upsOne hu (by rw [hbx]; simp)
                  have hlen : (a.eval y).cells.size = ds.length := by rw [← k1]; simp
                  have hle : i * sz' + sz' ≤ es.length * sz' := by
                    have : (i + 1) * sz' ≤ es.length * sz' := Nat.mul_le_mul_right _ hi
                    rwa [Nat.add_mul, Nat.one_mul] at this
                  have hcapsz : es.length * sz' ≤ cap * sz' := Nat.mul_le_mul_right _ g4
                  have hfit2 : (i * sz' + off) + (a.eval y).cells.size ≤ cur.size := by rw [g3, hlen]; omega
                  have hrun := run_storeVar_at (w := w) ht (o := i * sz' + off) g2 hcs hfit2 hone
                  have hfitL : i * sz' + off + (a.eval y).cells.toList.length ≤ cur.toList.length := by simpa using hfit2
                  have hA : ∀ g o, A g o → (w.setRow (L.ι b) (cur.toList.take (i * sz' + off) ++ (a.eval y).cells.toList ++ cur.toList.drop (i * sz' + off + (a.eval y).cells.toList.length)).toArray).cell? ⟨g, o, none⟩ = w.cell? ⟨g, o, none⟩ := by
                    intro g o hg
                    refine cell_setRow_other _ _ _ _ ?_
                    rintro rfl
                    exact hno o hg
                  have hI' := hI.store (w' := w.setRow (L.ι b) (cur.toList.take (i * sz' + off) ++ (a.eval y).cells.toList ++ cur.toList.drop (i * sz' + off + (a.eval y).cells.toList.length)).toArray) (x' := .row et sz' (es.set i e') false) hbx (fun g o hg => by rw [h4 g hg]; exact hno o) rfl .rfl' rfl
                    (by simp) (fun k hk => setRow_other _ _ _ _ fun e => hk (by rw [e]; show (L.hd b).ownBlock = _; rw [g1]; rfl)) (fun _ => .rfl') (fun _ _ => rfl) ?_ (fun _ h => h) hm
                  · refine zskip ?_ (hK _ _ _ _ (undef_fin hI' hp))
                    simp [execOp, Instr.storeAt, Instr.sureAddr, hx, hrun]
                  · -- the row as it reads now
                    have hcap' : cap ≤ maxLen ∧ w0.B0 ≤ L.ι b ∧ cur.toList.take (es.length * sz') = xs := by
                      rcases hr with ⟨hn, _⟩ | ⟨g, cap', cur', hv, hlo, hh, _, hmx, _, htk⟩
                      · exact absurd hn hnn
                      · have hgι : g = L.ι b := h4 g (by rw [hv]; rfl)
                        subst hgι
                        rw [g1] at hv
                        rw [g2] at hh
                        simp only [Value.slice.injEq] at hv
                        simp only [Option.some.injEq, Obj.cells.injEq] at hh
                        obtain ⟨_, _, rfl⟩ := hv
                        obtain ⟨rfl, _⟩ := hh
                        exact ⟨hmx, hlo, htk⟩
                    obtain ⟨hmx, hlo, htk⟩ := hcap'
                    let new := cur.toList.take (i * sz' + off) ++ (a.eval y).cells.toList ++ cur.toList.drop (i * sz' + off + (a.eval y).cells.toList.length)
                    have hnl : new.length = cur.size := by simp only [new]; rw [spl_len hfitL]; simp
                    refine ⟨new.take (es.length * sz'), ⟨by rw [List.length_take, hnl, g3, List.length_set]; exact Nat.min_eq_left hcapsz, .inr ⟨L.ι b, cap, new.toArray, by simpa using g1, hlo, setRow_heap _ _ _ _ _ _ g2, by simpa using g4, hmx, by simp [hnl, g3], by simp⟩⟩, ?_, ?_, h4, fun _ o ho => absurd ho (hno o)⟩
                    · intro i' e1 he1
                      rw [List.getElem?_set] at he1
                      by_cases hii : i = i'
                      · rw [if_pos hii, if_pos hi] at he1
                        cases he1
                        refine ⟨?_, hflat⟩
                        rw [he', spl_len hfit, g5]
                      · rw [if_neg hii] at he1
                        exact h2 i' e1 he1
                    · intro i' e1 j c u he1 hc hu'
                      rw [List.getElem?_take] at hu'
                      split at hu'
                      · rename_i hlt
                        simp only [new] at hu'
                        rw [spl_get' hfitL] at hu'
                        have e3 : (a.eval y).cells.toList.length = ds.length := by simpa using hlen
                        rw [e3] at hu'
                        rw [List.getElem?_set] at he1
                        have hj : j < sz' := by
                          by_cases hii : i = i'
                          · rw [if_pos hii, if_pos hi] at he1
                            cases he1
                            have := lt_of_get hc
                            rw [he', spl_len hfit, g5] at this
                            exact this
                          · rw [if_neg hii] at he1
                            have := lt_of_get hc
                            rw [(h2 i' e1 he1).1] at this
                            exact this
                        have old : ∀ (k : Nat) e2 c2, es[i']? = some e2 → e2.cells[j]? = some c2 → cur.toList[i' * sz' + j]? = some u → Rep w A c2 u := by
                          intro _ e2 c2 h6 h7 h8
                          refine h3 i' e2 j c2 u h6 h7 ?_
                          rw [← htk, List.getElem?_take, if_pos]
                          · exact h8
                          · have : i' < es.length := lt_of_get h6
                            have : (i' + 1) * sz' ≤ es.length * sz' := Nat.mul_le_mul_right _ this
                            rw [Nat.add_mul] at this
                            omega
                        by_cases hii : i = i'
                        · subst hii
                          rw [if_pos rfl, if_pos hi] at he1
                          cases he1
                          rw [he', spl_get' hfit] at hc
                          split at hc
                          · rename_i hin
                            rw [if_pos (by omega)] at hu'
                            have : (ds.map AV.d)[j - off]? = some (.d c) := by simp [hc]
                            have e4 : i * sz' + j - (i * sz' + off) = j - off := by omega
                            rw [e4] at hu'
                            exact (rv_d (k3 (j - off) (.d c) u this (by simpa using hu'))).frame (fun _ _ h => h) hA
                          · rename_i hin
                            rw [if_neg (by omega)] at hu'
                            exact (old 0 e c he hc hu').frame (fun _ _ h => h) hA
                        · rw [if_neg hii] at he1
                          rw [if_neg] at hu'
                          · exact (old 0 e1 c he1 hc hu').frame (fun _ _ h => h) hA
                          · intro hin
                            have hoff : off + ds.length ≤ sz' := by omega
                            rcases Nat.lt_or_ge i i' with h9 | h9
                            · have : (i + 1) * sz' ≤ i' * sz' := Nat.mul_le_mul_right _ h9
                              rw [Nat.add_mul] at this
                              omega
                            · have : (i' + 1) * sz' ≤ i * sz' := Nat.mul_le_mul_right _ (by omega)
                              rw [Nat.add_mul] at this
                              omega
                      · cases hu'
                have hdone : ∀ c ∈ ds, c.one = true := fun c hc => k2 (.d c) (List.mem_map_of_mem hc)
                by_cases hag : ∃ cs, e = .agg cs
                · obtain ⟨cs, rfl⟩ := hag
                  dsimp only at ho
                  split at ho
                  · rename_i cs' hset
                    cases ho
                    obtain ⟨e1, e2⟩ := setL_spec _ _ _ _ hset
                    refine key (.agg cs') e1 e2 ?_ hu hp
                    simp only [D.flat, List.all_eq_true, e1]
                    intro c hc
                    simp only [List.mem_append] at hc
                    rcases hc with (hc | hc) | hc
                    · exact flat_one g6 c (List.mem_of_mem_take hc)
                    · exact hdone c hc
                    · exact flat_one g6 c (List.mem_of_mem_drop hc)
                  · cases ho
                · have hcl : e.cells = [e] := by cases e <;> first | rfl | exact absurd ⟨_, rfl⟩ hag
                  have ho' : Out P oc (match off, ds with
                    | 0, [x] => .ok .undef [(b, some (.row et sz' (es.set i x) false))]
                    | _, _ => .bad) v ups := by
                    cases e <;> first | exact ho | exact absurd ⟨_, rfl⟩ hag
                  have hex : off = 0 ∧ ∃ y1, ds = [y1] := by
                    split at ho' <;> first | exact ⟨rfl, _, rfl⟩ | cases ho'
                  obtain ⟨rfl, y1, rfl⟩ := hex
                  cases ho'
                  have h1y := hdone y1 (by simp)
                  have hcl' : y1.cells = [y1] := by cases y1 <;> first | rfl | cases h1y
                  refine key y1 (by rw [hcl, hcl']; simp) (by rw [hcl]; simp) (by cases y1 <;> first | rfl | cases h1y) hu hp
            · cases ho
          · cases ho
        · rename_i b sz' i j hb
          have hx := ev_rv hI x
          rw [hb] at hx
          have hxp := rv_sptr hx
          split at ho
          · rename_i x1
            have h1x : x1.one = true := k2 (.d x1) (by simp)
            have hcs1 : ti.size = 1 := by simpa using hsz.symm
            obtain ⟨u, hu1, hu2⟩ : ∃ u, (a.eval y).cells = #[u] ∧ Rep w A x1 u := by
              have hz : (a.eval y).cells.size = 1 := by rw [hcs, hcs1]
              refine ⟨(a.eval y).cells[0], ?_, rv_d (k3 0 (.d x1) _ rfl (by simp))⟩
              exact Array.ext (by simp [hz]) fun i h1 h2 => by
                have : i = 0 := by omega
                subst this; rfl
            split at ho
            · rename_i es hbx
              split at ho
              · cases ho with
                | need hj ho =>
                  cases ho
                  obtain ⟨rfl, rfl, hm⟩ := upsOne hu (by rw [hbx]; simp)
                  obtain ⟨C, et, c1, c2, hI'⟩ := arrWrite hI hbx j [x1] [u] rfl (by simp; omega) (set_spl hj) (by simpa using h1x) (fun j' c v hc hv => by
                    cases j' with
                    | zero => simp only [List.getElem?_cons_zero, Option.some.injEq] at hc hv; subst hc; subst hv; exact hu2
                    | succ j' => simp at hc)
                  have hrun := run_storeVar_at (w := w) ht (o := j) c1 hcs (by rw [hu1]; simp; omega) hone
                  rw [hu1] at hrun
                  rw [Nat.mul_zero, Nat.zero_add] at hxp
                  refine zskip ?_ (hK _ _ _ _ (undef_fin hI' hp))
                  simp only [execOp, Instr.storeAt, Instr.sureAddr, hxp, Sem.run_bind, Sem.run_pure, Result.andThen_ok]
                  rw [hrun]
                  rfl
              · cases ho
            · rename_i et sz es hbx
              split at ho
              · rename_i hsz'
                have hsz' := Nat.eq_of_beq_eq_true hsz'
                subst hsz'
                cases ho with
                | @pick _ _ _ e _ _ he ho =>
                  dsimp only at ho
                  split at ho
                  · rename_i cs
                    cases ho with
                    | need hj ho =>
                      cases ho
                      obtain ⟨rfl, rfl, hm⟩ := upsOne hu (by rw [hbx]; simp)
                      obtain ⟨C, c1, c2, hI'⟩ := rowWrite hI hbx he (j := j) (u := u) hj h1x hu2
                      have hrun := run_storeVar_at (w := w) ht (o := i * sz' + j) c1 hcs (by rw [hu1]; simpa using c2) hone
                      rw [hu1] at hrun
                      refine zskip ?_ (hK _ _ _ _ (undef_fin hI' hp))
                      simp only [execOp, Instr.storeAt, Instr.sureAddr, hxp, Sem.run_bind, Sem.run_pure, Result.andThen_ok]
                      rw [hrun]
                      rfl
                  · cases ho
              · cases ho
            · cases ho
          · cases ho
        · rename_i b vv i j hb
          have hx := ev_rv hI x
          rw [hb] at hx
          obtain ⟨g, hg, hxp⟩ := rv_mptr hx
          split at ho
          · rename_i x1
            have h1x : x1.one = true := k2 (.d x1) (by simp)
            have hcs1 : ti.size = 1 := by simpa using hsz.symm
            obtain ⟨u, hu1, hu2⟩ : ∃ u, (a.eval y).cells = #[u] ∧ Rep w A x1 u := by
              have hz : (a.eval y).cells.size = 1 := by rw [hcs, hcs1]
              refine ⟨(a.eval y).cells[0], ?_, rv_d (k3 0 (.d x1) _ rfl (by simp))⟩
              exact Array.ext (by simp [hz]) fun i h1 h2 => by
                have : i = 0 := by omega
                subst this; rfl
            split at ho
            · rename_i et ie vv' rows hbx
              cases ho with
              | need hv ho =>
                subst hv
                cases ho with
                | pickR he ho =>
                  cases ho with
                  | pick he' ho =>
                    dsimp only at ho
                    split at ho
                    · cases ho
                      obtain ⟨rfl, rfl, hm⟩ := upsOne hu (by rw [hbx]; simp)
                      obtain ⟨C, c1, c2, hI'⟩ := matWrite hI hbx he (lt_of_get he') hg h1x hu2
                      have hrun := run_storeVar_at (w := w) ht (o := j) c1 hcs (by rw [hu1]; simpa using c2) hone
                      rw [hu1] at hrun
                      refine zskip ?_ (hK _ _ _ _ (undef_fin hI' hp))
                      simp only [execOp, Instr.storeAt, Instr.sureAddr, hxp, Sem.run_bind, Sem.run_pure, Result.andThen_ok]
                      rw [hrun]
                      rfl
                    · cases ho
            · cases ho
          · cases ho
        · cases ho
    · cases ho
  · cases ho
end
end Go.Vm
end

section
/- Each operation, fourth part: arithmetic, addresses, indexes, slices, calls. -/
namespace Go.Vm
open Go.RowKit (Below)
section
variable {P : Program} {S : Tys} {oc : Option Orc}
variable {w0 : Ent} {A0 : Sta} {N : Nat} {L : Lay} {A : Sta} {T : Nat → AV} {B : Nat → Option Bx} {a : Act} {w : World}
/-- An outcome that comes to a value, nothing written. -/
theorem outV {o : Oper} {r : Res} {v : AV} {ups} {T1 : Nat → AV} {B1 : Nat → Option Bx} {T2 : Nat → AV} {K : Act → World → Prop} {Q : Exit → Act → World → Prop}
    (hI : Inv w0 A0 N L A T B a w) (ho : Out P oc r v ups) (hu : UpsR o.dst ups T B T1 B1) (hp : PutR N o.dst v T1 B1 T2)
    (hK : ∀ L' A' a' w', Inv w0 A0 N L' A' T2 B1 a' w' → K a' w')
    (h : ups = [] ∧ ∃ u, (execOp a.eval o).run P w = .ok (.value u) w ∧ RV L w A v u) : o.wp P a w K Q := by
  obtain ⟨rfl, u, h1, h2⟩ := h
  exact pureV hI h1 h2 hu hp hK

theorem effBin_sound {op : BinOp} {t : TypeId} {x y : AV} {vx vy : Value} {v : AV} {ups} (ho : Out P oc (effBin op x y) v ups) (hx : RV L w A x vx) (hy : RV L w A y vy) :
    ups = [] ∧ ∃ u, (binOp op t vx vy).run P w = .ok u w ∧ RV L w A v u := by
  unfold effBin at ho
  split at ho
  · rename_i k a k' b
    have hx := rv_int hx
    have hy := rv_int hy
    subst hx; subst hy
    split at ho
    · rename_i hop
      have hop : op = .shr := by cases op <;> first | rfl | cases hop
      subst hop
      cases ho with
      | need hb ho =>
        cases ho
        exact ⟨rfl, _, by rw [binOp_shr, shift_shr _ _ _ _ hb.1 hb.2]; rfl, .d (.int _ _)⟩
    split at ho
    · cases ho
    · rename_i hk
      simp only [decide_eq_true_eq] at hk
      subst hk
      have wr1 : ∀ {n : Int} {v : AV} {ups}, Out P oc (.wr k n fun z => .ok (.d (.int k z)) []) v ups → ups = [] ∧ v = .d (.int k (k.wrap n)) := by
        intro n v ups h
        cases h with | wr hz h => cases h; rw [hz]; exact ⟨rfl, rfl⟩
      cases op <;> first
        | (obtain ⟨rfl, rfl⟩ := wr1 ho; exact ⟨rfl, _, by simp [binOp, Op.intArith], .d (.int _ _)⟩)
        | (cases ho with | need hb ho => (obtain ⟨rfl, rfl⟩ := wr1 ho; exact ⟨rfl, _, by simp [binOp, Op.intDiv, hb], .d (.int _ _)⟩))
        | (cases ho with | need hb ho => (cases ho; exact ⟨rfl, _, by simp [binOp, Op.intDiv, hb], .d (.int _ _)⟩))
        | (cases ho; exact ⟨rfl, _, by simp [binOp, Op.intCmp], .d (.bool _)⟩)
        | (cases ho; done)
  · rename_i s1 s2
    have hx := rv_str hx
    have hy := rv_str hy
    subst hx; subst hy
    cases op <;> first
      | (cases ho; exact ⟨rfl, _, by simp [binOp, Op.stringOp], .d (.bool _)⟩)
      | (cases ho with | need hb ho => (cases ho; refine ⟨rfl, _, ?_, .d (.str _)⟩; simp only [binOp, Op.stringOp]; rw [if_neg]; · rfl
                                        · simp only [IntKind.max, IntKind.bits, IntKind.signed]; simp at hb ⊢; omega))
      | (cases ho; done)
  · cases ho

theorem run_eqGuard_int {op : BinOp} {t : TypeId} {x y : Operand} {k k' : IntKind} {n m : Int} : (eqGuard op t x y (.int k n) (.int k' m)).run P w = .ok () w := by cases op <;> rfl
theorem run_eqGuard_str {op : BinOp} {t : TypeId} {x y : Operand} {n m : ByteArray} : (eqGuard op t x y (.string n) (.string m)).run P w = .ok () w := by cases op <;> rfl
theorem run_eqGuard_bool {op : BinOp} {t : TypeId} {x y : Operand} {n m : Bool} : (eqGuard op t x y (.bool n) (.bool m)).run P w = .ok () w := by cases op <;> rfl

theorem s_unOp {dst type pos after guard} (op : UnOp) (t : TypeId) (x : Operand) : Sound P S ⟨dst, .unOp op t x, type, pos, after, guard⟩ := by
  refine ⟨?_⟩
  intro w0 A0 N L A T B a w v ups T1 B1 T2 K Q oc dr hoc hI ho hu hp hK
  have hx := ev_rv hI x
  simp only [eff] at ho
  refine outV hI ho hu hp hK ?_
  split at ho
  · rename_i b hb
    rw [hb] at hx
    have hx := rv_bool hx
    cases ho
    exact ⟨rfl, _, by simp [execOp, Op.unary, hx], .d (.bool _)⟩
  · rename_i k n hb
    rw [hb] at hx
    have hx := rv_int hx
    cases ho with
    | wr hz ho =>
      cases ho
      refine ⟨rfl, _, by simp only [execOp, Op.unary, hx, Op.intArith]; rfl, ?_⟩
      rw [hz]
      exact .d (.int _ _)
  · cases ho

theorem isBytes_spec (hS : TysOk P S) {s e : TypeId} (h : isBytes S s e = true) : P.underlying s = some .string ∧ P.underlying e = some (.int .u8) := by
  unfold isBytes at h
  split at h
  · rename_i x y hx hy
    split at h
    · rename_i h1 h2
      exact ⟨by rw [(hS _ _ hx).und, h1], by rw [(hS _ _ hy).und, h2]⟩
    · cases h
  · cases h
theorem bytesD_len (b : ByteArray) : (bytesD b).length = b.size := by simp [bytesD]
theorem bytes_cast (hS : TysOk P S) {dst type pos after guard} {s t e : TypeId} {x : Operand} {b : ByteArray} {T1 : Nat → AV} {B1 : Nat → Option Bx} {T2 : Nat → AV} {K : Act → World → Prop} {Q : Exit → Act → World → Prop}
    (hI : Inv w0 A0 N L A T B a w) (ht : P.underlying t = some (.slice e)) (hby : isBytes S s e = true) (hx : a.eval x = .string b)
    (hu : UpsR dst [] T B T1 B1) (hp : PutR N dst (.d (.sl 1 (bytesD b))) T1 B1 T2) (hK : ∀ L' A' a' w', Inv w0 A0 N L' A' T2 B1 a' w' → K a' w') :
    (⟨dst, .convert s t x, type, pos, after, guard⟩ : Oper).wp P a w K Q := by
  cases hu
  obtain ⟨hs, he⟩ := isBytes_spec hS hby
  have hrun := run_bytes_of_string (P := P) w s t e b hs ht he
  have hle := grownCap_ge w b.size 0 e
  generalize grownCap w b.size 0 e = cap at hrun hle
  have hsize : ∀ o : Obj, (w.drew.alloc o).heap.size = w.heap.size + 1 := fun o => by
    show (w.heap.push o).size = _
    simp
  have hget : ∀ o : Obj, (w.drew.alloc o).heap[w.heap.size]? = some o := fun o => by
    show (w.heap.push o)[w.heap.size]? = _
    simp
  generalize hob : Obj.cells (bytesRow b cap) e ((bytesRow b cap).size, (bytesRow b cap).size + 1) = ob at hrun
  have hcell : ∀ j, (w.drew.alloc ob).cell? ⟨w.heap.size, j, none⟩ = (bytesRow b cap)[j]? := fun j => by
    rw [cell_of_row _ w.heap.size j (bytesRow b cap) e _ (by rw [hget, ← hob])]
  have hI' := hI.world (w' := w.drew.alloc ob) (A' := fun g o => A g o ∨ (g = w.heap.size ∧ o < b.size)) ⟨(Below.refl _ w).drew.alloc (Nat.le_refl _) _, Nat.le_succ _⟩ (fun _ _ h => .inl h)
    (fun g o h => by
      rw [hsize]
      rcases h with h | ⟨rfl, _⟩
      · have := hI.Aok g o h; omega
      · omega)
    (fun g o h => by
      rcases h with h | ⟨rfl, _⟩
      · exact .inl h
      · exact .inr (Nat.le_refl _))
  refine zarr (by simp only [execOp, Sem.run_bind, hx, hrun, Result.andThen_ok]; rfl) (hK _ _ _ _ (fin hI' ?_ hp))
  have hl := bytesD_len b
  have key : ∀ (i : Nat) y, (bytesD b)[i]? = some y → i < b.size ∧ ∃ z : Int, y = .int .u8 z ∧ (bytesRow b cap)[i]? = some (.int .u8 z) := by
    intro i y hy
    have hi : i < b.size := by
      rcases Nat.lt_or_ge i (bytesD b).length with h | h
      · omega
      · rw [List.getElem?_eq_none h] at hy; cases hy
    refine ⟨hi, _, ?_, bytesRow_at b cap i hi⟩
    simp only [bytesD, List.getElem?_map, Option.map_eq_some_iff] at hy
    obtain ⟨c, hc, rfl⟩ := hy
    rw [Array.getElem?_toList, Array.getElem?_eq_getElem hi] at hc
    cases hc; rfl
  rw [← hl] at hle ⊢
  refine .d (.sl w.heap.size 0 (fun i _ => ((bytesRow b cap)[i]?).getD undef) hle (fun i y hy => ?_) (fun i y j c hy hc => ?_) (fun i y j c hy hc => ?_))
  · obtain ⟨_, z, rfl, _⟩ := key i y hy; exact ⟨rfl, rfl⟩
  · obtain ⟨h1, z, rfl, h2⟩ := key i y hy
    have hj : j = 0 := by
      cases j with
      | zero => rfl
      | succ j => simp [D.cells] at hc
    subst hj
    have e1 : 0 + i * 1 + 0 = i := by omega
    rw [e1, hcell, h2]
    exact ⟨.inr ⟨rfl, by rw [hl]; exact h1⟩, rfl⟩
  · obtain ⟨h1, z, rfl, h2⟩ := key i y hy
    have hj : j = 0 := by
      cases j with
      | zero => rfl
      | succ j => simp [D.cells] at hc
    subst hj
    simp only [D.cells, List.getElem?_cons_zero, Option.some.injEq] at hc
    subst hc
    rw [h2]
    exact .int _ _

theorem s_convert (hS : TysOk P S) {dst type pos after guard} (s t : TypeId) (x : Operand) : Sound P S ⟨dst, .convert s t x, type, pos, after, guard⟩ := by
  refine ⟨?_⟩
  intro w0 A0 N L A T B a w v ups T1 B1 T2 K Q oc dr hoc hI ho hu hp hK
  have hx := ev_rv hI x
  simp only [eff] at ho
  split at ho
  · refine outV hI ho hu hp hK ?_
    rename_i ts tt k n hs ht hb
    have hs := hS _ _ hs
    have ht := hS _ _ ht
    rw [hb] at hx
    have hx := rv_int hx
    split at ho
    · rename_i k' hk
      cases ho with
      | wr hz ho =>
        cases ho
        refine ⟨rfl, .int k' (k'.wrap n), ?_, by rw [hz]; exact .d (.int _ _)⟩
        simp only [execOp, convert, Sem.run_bind, hs.run_und, ht.run_und, hk, hx, Result.andThen_ok]
        rfl
    · cases ho
  · rename_i ts tt b hs ht hb
    have hs := hS _ _ hs
    have ht := hS _ _ ht
    rw [hb] at hx
    have hx := rv_str hx
    split at ho
    · rename_i hk
      refine outV hI ho hu hp hK ?_
      cases ho
      refine ⟨rfl, .string b, ?_, .d (.str _)⟩
      simp only [execOp, convert, Sem.run_bind, hs.run_und, ht.run_und, hk, hx, Result.andThen_ok]
      rfl
    · rename_i e hk
      split at ho
      · rename_i hby
        cases ho
        exact bytes_cast hS hI (by rw [ht.und, hk]) hby hx hu hp hK
      · cases ho
    · cases ho
  · cases ho

theorem fieldOf_spec (hS : TysOk P S) {t : TypeId} {f fo ft n : Nat} (h : fieldOf S t f = some (fo, ft, n)) :
    ∃ fs fd, P.underlying t = some (.struct fs) ∧ fs[f]? = some fd ∧ fd.offset = fo ∧ fd.type = ft ∧ n ≠ 0 ∧ (∀ w, (sizeOf ft).run P w = .ok n w) ∧ ∃ tf, S ft = some tf ∧ tf.size = n := by
  unfold fieldOf at h
  split at h
  · rename_i ti ht
    split at h
    · rename_i fs hu
      split at h
      · rename_i nm ft' fo' e tg pk bo hf
        split at h
        · rename_i und size bytes zero htf
          split at h
          · cases h
          · rename_i n'
            simp only [Option.some.injEq, Prod.mk.injEq] at h
            obtain ⟨rfl, rfl, rfl⟩ := h
            refine ⟨fs, _, by rw [(hS _ _ ht).und, hu], by simpa using hf, rfl, rfl, by simp, fun w => (hS _ _ htf).run_size w, _, htf, rfl⟩
        · cases h
      · cases h
    · cases h
  · cases h

theorem run_fieldAt_ok (hS : TysOk P S) {t : TypeId} {f fo ft n : Nat} (h : fieldOf S t f = some (fo, ft, n)) (g o : Nat) :
    (Instr.fieldAt t (.pointer (some ⟨g, o, none⟩)) f).run P w = .ok (.pointer (some ⟨g, o + fo, none⟩)) w := by
  obtain ⟨fs, fd, h1, h2, h3, h4, h5, h6, _⟩ := fieldOf_spec hS h
  have : (⟨g, o, none⟩ : Addr).add fd.offset = ⟨g, o + fo, none⟩ := by rw [h3]; exact Addr.add_mid g o fo
  simp [Instr.fieldAt, run_underlying h1, h2, Instr.sureAddr, fieldPlace, h4, h6, h5, this]

theorem s_fieldAddr (hS : TysOk P S) {dst type pos after guard} (t : TypeId) (x : Operand) (f : Nat) : Sound P S ⟨dst, .fieldAddr t x f, type, pos, after, guard⟩ := by
  refine ⟨?_⟩
  intro w0 A0 N L A T B a w v ups T1 B1 T2 K Q oc dr hoc hI ho hu hp hK
  have hx := ev_rv hI x
  simp only [eff] at ho
  refine outV hI ho hu hp hK ?_
  split at ho
  · rename_i fo ft n hf
    split at ho
    · rename_i b off hb
      rw [hb] at hx
      have hx := rv_ptr hx
      cases ho
      exact ⟨rfl, _, by simp [execOp, hx, run_fieldAt_ok hS hf], .ptr _ _⟩
    · rename_i b sz i off hb
      rw [hb] at hx
      have hx := rv_eptr hx
      cases ho
      refine ⟨rfl, .pointer (some ⟨L.ι b, i * sz + (off + fo), none⟩), ?_, .eptr _ _ _ _⟩
      rw [← Nat.add_assoc]
      simp [execOp, hx, run_fieldAt_ok hS hf]
    · rename_i cs off hb
      rw [hb] at hx
      obtain ⟨g, o, u, hv, h1, hc, hr⟩ := rv_ref hx
      cases ho
      refine ⟨rfl, .pointer (some ⟨g, o + (off + fo), none⟩), ?_, .d (.ref g o u h1 hc hr)⟩
      rw [← Nat.add_assoc]
      simp [execOp, hv, run_fieldAt_ok hS hf]
    · cases ho
  · cases ho

theorem run_part_one {t : TypeId} {ti : TI} (ht : TyOk P t ti) (hg : isAggT ti.und = false) {cs : Array Value} {off : Nat} {u : Value} (h : cs[off]? = some u) : (part t cs off).run P w = .ok u w := by
  simp [part, ht.run_isAgg, hg, h]
theorem run_part_agg {t : TypeId} {ti : TI} (ht : TyOk P t ti) (hg : isAggT ti.und = true) {cs : Array Value} {off : Nat} : (part t cs off).run P w = .ok (.agg (cs.extract off (off + ti.size))) w := by
  simp [part, ht.run_isAgg, hg, ht.run_size]

theorem rv_agg {cs : List D} {u : Value} (h : RV L w A (.d (.agg cs)) u) : ∃ vs, u = .agg vs ∧ cs.length = vs.size ∧ (∀ c ∈ cs, c.one = true) ∧ ∀ (j : Nat) c v, cs[j]? = some c → vs[j]? = some v → Rep w A c v := by
  cases rv_d h with
  | agg hl h1 hr => exact ⟨_, rfl, hl, h1, hr⟩

theorem s_field (hS : TysOk P S) {dst type pos after guard} (t : TypeId) (x : Operand) (f : Nat) : Sound P S ⟨dst, .field t x f, type, pos, after, guard⟩ := by
  refine ⟨?_⟩
  intro w0 A0 N L A T B a w v ups T1 B1 T2 K Q oc dr hoc hI ho hu hp hK
  have hx := ev_rv hI x
  simp only [eff] at ho
  refine outV hI ho hu hp hK ?_
  split at ho
  · rename_i fo ft n hf
    obtain ⟨fs, fd, g1, g2, g3, g4, g5, g6, tf', g7, g8⟩ := fieldOf_spec hS hf
    split at ho
    · rename_i tf htf
      rw [g7] at htf
      cases htf
      have htf := hS _ _ g7
      split at ho
      · rename_i cs hb hg
        rw [hb] at hx
        obtain ⟨vs, hv, hl, h1, hr⟩ := rv_agg hx
        split at ho
        · rename_i c hc
          cases ho
          obtain ⟨u, hu1⟩ := arr_get (C := vs) (j := fo) (by rw [← hl]; exact lt_of_get hc)
          refine ⟨rfl, u, ?_, .d (hr fo c u hc hu1)⟩
          simp [execOp, Instr.field, run_underlying g1, g2, hv, asAgg, g3, g4, run_part_one htf hg hu1]
        · cases ho
      · rename_i cs hb hg
        rw [hb] at hx
        obtain ⟨vs, hv, hl, h1, hr⟩ := rv_agg hx
        split at ho
        · rename_i l hsub
          cases ho
          obtain ⟨e1, e2, e3⟩ := subL_spec _ _ _ _ hsub
          rw [if_neg g5] at e2
          refine ⟨rfl, .agg (vs.extract fo (fo + n)), ?_, .d (.agg ?_ (fun c hc => ?_) fun j c u hc hu => ?_)⟩
          · simp [execOp, Instr.field, run_underlying g1, g2, hv, asAgg, g3, g4, run_part_agg htf hg, g8]
          · simp [e1]; omega
          · obtain ⟨j, hj⟩ := List.getElem?_of_mem hc
            have hlt := lt_of_get hj
            rw [e3 j (by omega)] at hj
            exact h1 c (List.mem_of_getElem? hj)
          · have hlt := lt_of_get hc
            rw [e3 j (by omega)] at hc
            refine hr (fo + j) c u hc ?_
            rw [Array.getElem?_extract] at hu
            split at hu
            · exact hu
            · cases hu
        · cases ho
      · cases ho
    · cases ho
  · cases ho

theorem rv_tup {cs : List D} {u : Value} (h : RV L w A (.d (.tup cs)) u) : ∃ vs, u = .tuple vs ∧ cs.length = vs.size ∧ ∀ (j : Nat) c v, cs[j]? = some c → vs[j]? = some v → Rep w A c v := by
  cases rv_d h with
  | tup hl hr => exact ⟨_, rfl, hl, hr⟩
theorem s_extract {dst type pos after guard} (x : Operand) (i : Nat) : Sound P S ⟨dst, .extract x i, type, pos, after, guard⟩ := by
  refine ⟨?_⟩
  intro w0 A0 N L A T B a w v ups T1 B1 T2 K Q oc dr hoc hI ho hu hp hK
  have hx := ev_rv hI x
  simp only [eff] at ho
  refine outV hI ho hu hp hK ?_
  split at ho
  · rename_i cs hb
    rw [hb] at hx
    obtain ⟨vs, hv, hl, hr⟩ := rv_tup hx
    split at ho
    · rename_i c hc
      cases ho
      obtain ⟨u, hu1⟩ := arr_get (C := vs) (j := i) (by rw [← hl]; exact lt_of_get hc)
      exact ⟨rfl, u, by simp [execOp, Instr.extract, hv, hu1], .d (hr i c u hc hu1)⟩
    · cases ho
  · rename_i cs hb
    rw [hb] at hx
    generalize hv : a.eval x = u at hx
    cases hx with
    | @tup _ vs hl hr =>
      split at ho
      · rename_i c hc
        cases ho
        obtain ⟨u, hu1⟩ := arr_get (C := vs) (j := i) (by rw [← hl]; exact lt_of_get hc)
        exact ⟨rfl, u, by simp [execOp, Instr.extract, hv, hu1], hr i _ u hc hu1⟩
      · cases ho
  · cases ho

theorem rv_sl {sz : Nat} {es : List D} {u : Value} (h : RV L w A (.d (.sl sz es)) u) : (es = [] ∧ ∃ p cap, u = .slice p 0 cap) ∨
    ∃ (g o : Nat) (cap : Nat) (uu : Nat → Nat → Value), u = .slice (some ⟨g, o, none⟩) es.length cap ∧ es.length ≤ cap ∧ (∀ (i : Nat) e, es[i]? = some e → e.cells.length = sz ∧ e.flat = true) ∧
      (∀ (i : Nat) e (j : Nat) c, es[i]? = some e → e.cells[j]? = some c → A g (o + i * sz + j) ∧ w.cell? ⟨g, o + i * sz + j, none⟩ = some (uu i j)) ∧
      (∀ (i : Nat) e (j : Nat) c, es[i]? = some e → e.cells[j]? = some c → Rep w A c (uu i j)) := by
  cases rv_d h with
  | slnil _ p cap => exact .inl ⟨rfl, p, cap, rfl⟩
  | sl g o uu h1 h2 h3 h4 => exact .inr ⟨g, o, _, uu, rfl, h1, h2, h3, h4⟩
theorem sl_len {sz : Nat} {es : List D} {u : Value} (h : RV L w A (.d (.sl sz es)) u) : ∃ p cap, u = .slice p es.length cap := by
  rcases rv_sl h with ⟨rfl, p, cap, hv⟩ | ⟨g, o, cap, uu, hv, _⟩
  · exact ⟨p, cap, hv⟩
  · exact ⟨_, cap, hv⟩
theorem own_len (hI : Inv w0 A0 N L A T B a w) {b et sz : Nat} {es : List D} {fz : Bool} (hx : B b = some (.row et sz es fz)) : ∃ p cap, L.hd b = .slice p es.length cap := by
  obtain ⟨xs, ⟨hl, hr⟩, _⟩ := hI.bxs b _ hx
  rcases hr with ⟨hn, h0⟩ | ⟨g, cap, cur, hv, _⟩
  · exact ⟨none, 0, by rw [hn, h0]⟩
  · exact ⟨_, cap, hv⟩

theorem run_indexAt_sl {t e : TypeId} {size : Nat} (ht : P.underlying t = some (.slice e)) (hs : ∀ w, (sizeOf e).run P w = .ok size w) {g o len cap : Nat} {k : IntKind} {n : Int} (h : 0 ≤ n ∧ n < (len : Int)) :
    (Instr.indexAt t (.slice (some ⟨g, o, none⟩) len cap) (.int k n)).run P w = .ok (.pointer (some ⟨g, o + n.toNat * size, none⟩)) w := by
  have : (⟨g, o, none⟩ : Addr).add (n.toNat * size) = ⟨g, o + n.toNat * size, none⟩ := Addr.add_mid g o _
  simp [Instr.indexAt, asIntOf, run_underlying ht, h, hs, this]
theorem run_indexAt_arr {t e : TypeId} {len size : Nat} (ht : P.underlying t = some (.array len e)) (hs : ∀ w, (sizeOf e).run P w = .ok size w) {g o : Nat} {k : IntKind} {n : Int} (h : 0 ≤ n ∧ n < (len : Int)) :
    (Instr.indexAt t (.pointer (some ⟨g, o, none⟩)) (.int k n)).run P w = .ok (.pointer (some ⟨g, o + n.toNat * size, none⟩)) w := by
  have : (⟨g, o, none⟩ : Addr).add (n.toNat * size) = ⟨g, o + n.toNat * size, none⟩ := Addr.add_mid g o _
  simp [Instr.indexAt, asIntOf, run_underlying ht, h, hs, this, Instr.sureAddr]

theorem rv_view2 {b sz lo hi : Nat} {u : Value} (h : RV L w A (.view b sz lo hi) u) : ∃ g n C, L.hd b = .slice (some ⟨g, 0, none⟩) n C ∧ (lo < hi ∧ hi ≤ n ∧ n ≤ C) ∧ u = .slice (some ⟨g, lo * sz, none⟩) (hi - lo) (C - lo) := by
  cases h with
  | view _ _ _ _ g n C hh hb => exact ⟨g, n, C, hh, hb, rfl⟩
theorem s_indexAddr (hS : TysOk P S) {dst type pos after guard} (t : TypeId) (x i : Operand) : Sound P S ⟨dst, .indexAddr t x i, type, pos, after, guard⟩ := by
  refine ⟨?_⟩
  intro w0 A0 N L A T B a w v ups T1 B1 T2 K Q oc dr hoc hI ho hu hp hK
  have hx := ev_rv hI x
  have hi := ev_rv hI i
  simp only [eff] at ho
  refine outV hI ho hu hp hK ?_
  split at ho
  · rename_i ti k n ht hn
    have ht := hS _ _ ht
    rw [hn] at hi
    have hi := rv_int hi
    split at ho
    · rename_i e sz es hu1 hb
      rw [hb] at hx
      have htu : P.underlying t = some (.slice e) := by rw [ht.und, hu1]
      split at ho
      · rename_i te hte
        have hte := hS _ _ hte
        split at ho
        · rename_i hsz
          have hsz := Nat.eq_of_beq_eq_true hsz
          cases ho with
          | need h0 ho =>
            cases ho with
            | @pick _ _ _ el _ _ hel ho =>
              cases ho
              have hlt := lt_of_get hel
              rcases rv_sl hx with ⟨rfl, _⟩ | ⟨g, o, cap, uu, hv, h1, h2, h3, h4⟩
              · cases hel
              · refine ⟨rfl, .pointer (some ⟨g, (o + n.toNat * te.size) + 0, none⟩), ?_, .d (.ref g (o + n.toNat * te.size) (uu n.toNat) (flat_one (h2 _ _ hel).2) (fun j c hc => ?_) fun j c hc => h4 _ _ j c hel hc)⟩
                · have h5 : 0 ≤ n ∧ n < (es.length : Int) := ⟨h0, by omega⟩
                  simp [execOp, hv, hi, run_indexAt_sl htu hte.run_size h5]
                · rw [hsz]; exact h3 _ _ j c hel hc
        · cases ho
      · cases ho
    · rename_i e b sz m hu1 hb
      have hcl := ev_cl hI x
      rw [hb] at hx hcl
      have hx := rv_own hx
      have htu : P.underlying t = some (.slice e) := by rw [ht.und, hu1]
      split at ho
      · rename_i te hte
        have hte := hS _ _ hte
        split at ho
        · rename_i et sz' es fz hbx
          split at ho
          · rename_i hsz hsz'
            have hsz := Nat.eq_of_beq_eq_true hsz
            have hsz' := Nat.eq_of_beq_eq_true hsz'
            cases ho with
            | need h0 ho =>
              cases ho
              obtain ⟨xs, ⟨hl, hr⟩, _, _, h4, _⟩ := hI.bxs b _ hbx
              rcases hr with ⟨hn0, h00⟩ | ⟨g, cap, cur, hv, _⟩
              · rw [h00] at h0; omega
              · have hgι : g = L.ι b := h4 g (by rw [hv]; rfl)
                subst hgι
                refine ⟨rfl, .pointer (some ⟨L.ι b, n.toNat * sz + 0, none⟩), ?_, .eptr _ _ _ _⟩
                simp [execOp, hx, hv, hi, run_indexAt_sl htu hte.run_size h0, hsz]
          · cases ho
        · rename_i et ie vv rows hbx
          split at ho
          · rename_i hs1
            cases ho with
            | need h0 ho =>
              cases ho
              obtain ⟨xs, ⟨hl, hr⟩, h4, _⟩ := hI.bxs b _ hbx
              rcases hr with ⟨hn0, h00⟩ | ⟨g, cap, cur, hv, _⟩
              · rw [h00] at h0; omega
              · have hgι : g = L.ι b := h4 g (by rw [hv]; rfl)
                subst hgι
                refine ⟨rfl, .pointer (some ⟨L.ι b, n.toNat * 1 + 0, none⟩), ?_, .eptr _ _ _ _⟩
                simp [execOp, hx, hv, hi, run_indexAt_sl htu hte.run_size h0, hs1]
          · cases ho
        · cases ho
      · cases ho
    · rename_i e b sz lo hi' hu1 hb
      rw [hb] at hx
      obtain ⟨g, nn, C, hh, hbd, hv⟩ := rv_view2 hx
      have htu : P.underlying t = some (.slice e) := by rw [ht.und, hu1]
      split at ho
      · rename_i te hte
        have hte := hS _ _ hte
        split at ho
        · rename_i et sz' es fz hbx
          split at ho
          · rename_i hsz hsz'
            have hsz := Nat.eq_of_beq_eq_true hsz
            cases ho with
            | need h0 ho =>
              cases ho
              obtain ⟨xs, _, _, _, h4, _⟩ := hI.bxs b _ hbx
              have hgι : g = L.ι b := h4 g (by rw [hh]; rfl)
              subst hgι
              refine ⟨rfl, .pointer (some ⟨L.ι b, (lo + n.toNat) * sz + 0, none⟩), ?_, .eptr _ _ _ _⟩
              simp [execOp, hv, hi, run_indexAt_sl htu hte.run_size h0, hsz, Nat.add_mul]
          · cases ho
        · cases ho
      · cases ho
    · rename_i e b vv k hu1 hb
      rw [hb] at hx
      have hx := rv_sub hx
      have htu : P.underlying t = some (.slice e) := by rw [ht.und, hu1]
      split at ho
      · rename_i te hte
        have hte := hS _ _ hte
        split at ho
        · rename_i et ie vv' rows hbx hs1
          cases ho with
          | need hv ho =>
            subst hv
            cases ho with
            | pickR he ho =>
              cases ho with
              | need h0 ho =>
                cases ho
                obtain ⟨_, ys, k1, _, _⟩ := mat_row hI hbx he
                obtain ⟨_, _, _, h3, _⟩ := hI.bxs b _ hbx
                cases hob : (L.sub b vv k).ownBlock with
                | none => have := (ownBlock_none k1 hob).2; omega
                | some g =>
                  obtain ⟨cap, hsl, _⟩ := ownsRow_cells k1 hob
                  refine ⟨rfl, .pointer (some ⟨g, 0 + n.toNat * te.size, none⟩), ?_, ?_⟩
                  · simp [execOp, hx, hsl, hi, run_indexAt_sl htu hte.run_size h0]
                  · rw [hs1, Nat.mul_one, Nat.zero_add]
                    exact .mptr _ _ _ _ g hob (Nat.le_of_eq h3)
        · cases ho
      · cases ho
    · rename_i len e b off hu1 hb
      rw [hb] at hx
      have hx := rv_ptr hx
      have htu : P.underlying t = some (.array len e) := by rw [ht.und, hu1]
      split at ho
      · rename_i te hte
        have hte := hS _ _ hte
        split at ho
        · split at ho
          · have hs1 : te.size = 1 := by assumption
            cases ho with
            | need h0 ho =>
              cases ho
              refine ⟨rfl, .pointer (some ⟨L.ι b, 0 * 0 + n.toNat, none⟩), ?_, .sptr _ _ _ _⟩
              simp [execOp, hx, hi, run_indexAt_arr htu hte.run_size h0, hs1]
          · cases ho
        · cases ho with
          | need h0 ho =>
            cases ho
            exact ⟨rfl, _, by simp [execOp, hx, hi, run_indexAt_arr htu hte.run_size h0], .ptr _ _⟩
      · cases ho
    · rename_i len e b sz k off hu1 hb
      rw [hb] at hx
      have hx := rv_eptr hx
      have htu : P.underlying t = some (.array len e) := by rw [ht.und, hu1]
      split at ho
      · rename_i te hte
        have hte := hS _ _ hte
        split at ho
        · rename_i hs1
          cases ho with
          | need h0 ho =>
            cases ho
            refine ⟨rfl, .pointer (some ⟨L.ι b, k * sz + (off + n.toNat), none⟩), ?_, .sptr _ _ _ _⟩
            rw [← Nat.add_assoc]
            simp [execOp, hx, hi, run_indexAt_arr htu hte.run_size h0, hs1]
        · cases ho
      · cases ho
    · rename_i len e cs off hu1 hb
      rw [hb] at hx
      obtain ⟨g, o, u, hv, h1, hc, hr⟩ := rv_ref hx
      have htu : P.underlying t = some (.array len e) := by rw [ht.und, hu1]
      split at ho
      · rename_i te hte
        have hte := hS _ _ hte
        split at ho
        · rename_i hs1
          cases ho with
          | need h0 ho =>
            cases ho with
            | @pick _ _ _ el _ _ hel ho =>
              cases ho
              have hone := h1 _ (List.mem_of_getElem? hel)
              refine ⟨rfl, .pointer (some ⟨g, (o + (off + n.toNat)) + 0, none⟩), ?_, .d (.ref g (o + (off + n.toNat)) (fun _ => u (off + n.toNat)) (by simpa using hone) (fun j c hc' => ?_) fun j c hc' => ?_)⟩
              · rw [Nat.add_zero, ← Nat.add_assoc]
                simp [execOp, hv, hi, run_indexAt_arr htu hte.run_size h0, hs1]
              · cases j with
                | zero =>
                  simp only [List.getElem?_cons_zero, Option.some.injEq] at hc'
                  subst hc'
                  rw [Nat.add_zero]
                  exact hc _ _ hel
                | succ j => simp at hc'
              · cases j with
                | zero =>
                  simp only [List.getElem?_cons_zero, Option.some.injEq] at hc'
                  subst hc'
                  exact hr _ _ hel
                | succ j => simp at hc'
        · cases ho with
          | need h0 ho =>
            cases ho
            refine ⟨rfl, .pointer (some ⟨g, o + (off + n.toNat * te.size), none⟩), ?_, .d (.ref g o u h1 hc hr)⟩
            rw [← Nat.add_assoc]
            simp [execOp, hv, hi, run_indexAt_arr htu hte.run_size h0]
      · cases ho
    · cases ho
  · cases ho

theorem bAt_eq {s : ByteArray} {i : Nat} (h : i < s.size) : ∃ b, s[i]? = some b ∧ bAt s i = (b.toNat : Int) := by
  have h' : i < s.data.toList.length := by simpa using h
  refine ⟨s[i], by simp [h], ?_⟩
  unfold bAt
  rw [List.getElem?_eq_getElem h']
  rfl

theorem s_index (hS : TysOk P S) {dst type pos after guard} (t : TypeId) (x i : Operand) : Sound P S ⟨dst, .index t x i, type, pos, after, guard⟩ := by
  refine ⟨?_⟩
  intro w0 A0 N L A T B a w v ups T1 B1 T2 K Q oc dr hoc hI ho hu hp hK
  have hx := ev_rv hI x
  have hi := ev_rv hI i
  simp only [eff] at ho
  refine outV hI ho hu hp hK ?_
  split at ho
  · rename_i ti k n ht hn
    have ht := hS _ _ ht
    rw [hn] at hi
    have hi := rv_int hi
    split at ho
    · rename_i s hu1 hb
      rw [hb] at hx
      have hx := rv_str hx
      have htu : P.underlying t = some .string := by rw [ht.und, hu1]
      cases ho with
      | need h0 ho =>
        cases ho
        obtain ⟨b, hb1, hb2⟩ := bAt_eq (s := s) (i := n.toNat) (by omega)
        refine ⟨rfl, .int .u8 (b.toNat : Int), ?_, by rw [hb2]; exact .d (.int _ _)⟩
        simp only [execOp, Instr.index, Sem.run_bind, hi, hx, asIntOf, run_underlying htu, Sem.run_pure, Result.andThen_ok]
        rw [if_pos h0.1, hb1]
        rfl
    · rename_i len e cs hu1 hb
      rw [hb] at hx
      obtain ⟨vs, hv, hl, h1, hr⟩ := rv_agg hx
      have htu : P.underlying t = some (.array len e) := by rw [ht.und, hu1]
      split at ho
      · rename_i te hte
        have hte := hS _ _ hte
        split at ho
        · rename_i hg
          split at ho
          · rename_i h1s
            have h1s := Nat.eq_of_beq_eq_true h1s
            cases ho with
            | need h0 ho =>
              cases ho with
              | @pick _ _ _ c _ _ hc ho =>
                cases ho
                obtain ⟨u, hu1⟩ := arr_get (C := vs) (j := n.toNat) (by rw [← hl]; exact lt_of_get hc)
                refine ⟨rfl, u, ?_, .d (hr _ c u hc hu1)⟩
                have hpart := run_part_one (w := w) hte hg hu1
                simp [execOp, Instr.index, hi, hv, asIntOf, run_underlying htu, h0, hte.run_size, h1s, hpart]
          · cases ho
        · cases ho
      · cases ho
    · cases ho
  · cases ho
end
end Go.Vm
end
