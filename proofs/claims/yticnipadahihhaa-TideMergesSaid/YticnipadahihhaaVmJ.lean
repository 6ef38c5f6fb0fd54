/- Each operation, sixth part: append, make, closures, calls. -/
import Derived.Test.YticnipadahihhaaVmI
namespace Go.Vm
open Go.RowKit (Below)
section
variable {P : Program} {S : Tys} {oc : Option Orc}
variable {w0 : Ent} {A0 : Sta} {N : Nat} {L : Lay} {A : Sta} {T : Nat → AV} {B : Nat → Option Bx} {a : Act} {w : World}

/-- What 'append' does, its two ways told apart: in place, or in a new block. -/
theorem append_two (base : Nat) (t ty e : TypeId) (i : TypeInfo) (z : Value) (size bytes : Nat) (ht : P.underlying t = some (.slice e)) (hi : P.info? e = some i) (hz : i.zero = some z)
    (hsize : i.size = size) (hby : i.bytes = bytes) (hzs : z.cells.size = size)
    (v : Value) (n : Nat) (xs : List Value) (hown : w.ownsRow base e size v n xs)
    (p : Addr) (m c : Nat) (news : List Value) (hl : news.length = m * size) (hnews : ∀ (j : Nat) u, news[j]? = some u → w.cell? (p.add j) = some u) (h1 : ∀ u ∈ news, u.oneCell' = true)
    (h63 : n + m ≤ 140737488355328) (hbytes : (n + m) * bytes ≤ 140737488355328) (hbase : base ≤ w.heap.size) (hm : 0 < m) :
    ∃ v' w', (Builtin.append_ #[t, t] ty #[v, .slice (some p) m c]).run P w = .ok v' w' ∧ w'.ownsRow base e size v' (n + m) (xs ++ news) ∧
      ((∃ g, v.ownBlock = some g ∧ v'.ownBlock = some g ∧ w'.os = w.os ∧ TapeOn w w' ∧ w'.output = w.output ∧ w'.heap.size = w.heap.size ∧ (∀ k, k ≠ g → w'.heap[k]? = w.heap[k]?) ∧
          ∀ o, o < n * size → w'.cell? ⟨g, o, none⟩ = w.cell? ⟨g, o, none⟩) ∨
        (v'.ownBlock = some w.heap.size ∧ BelowD w w' ∧ w.heap.size < w'.heap.size)) := by
  subst hsize; subst hby
  have hlen : (xs ++ news).length = (n + m) * i.size := by rw [List.length_append, hown.1, hl, Nat.add_mul]
  have grown : ∀ (old : Nat), old < n + m →
      (w.drew.alloc (.cells (xs.toArray ++ news.toArray ++ Builtin.zeroCells z.cells (grownCap w (n + m) old e - (n + m))) e)).ownsRow base e i.size
        (.slice (some ⟨w.heap.size, 0, none⟩) (n + m) (grownCap w (n + m) old e)) (n + m) (xs ++ news) := by
    intro old ho
    have hge := grownCap_ge w (n + m) old e
    have hcm : grownCap w (n + m) old e ≤ maxLen := grownCap_le_maxLen w (n + m) old e (by simp only [maxLen]; omega)
    refine ⟨hlen, .inr ⟨w.heap.size, _, _, rfl, hbase, heap_new w.drew _, hge, hcm, ?_, ?_⟩⟩
    · simp only [Array.size_append, List.size_toArray, size_zeroCells, hzs, hown.1, hl, ← Nat.add_mul]
      congr 1
      omega
    · simp only [Array.toList_append, List.append_assoc]
      rw [← List.append_assoc, ← hlen]
      exact List.take_left
  have hbel : ∀ o, BelowD w (w.drew.alloc o) := fun o => ⟨((Below.refl _ w).drew).alloc (Nat.le_refl _) o, Nat.le_succ _⟩
  rcases hown.2 with ⟨rfl, rfl⟩ | ⟨g, cap, cur, rfl, hbg, hg, hnc, hcm, hcs, htake⟩
  · have hx : xs = [] := List.eq_nil_of_length_eq_zero (by simpa using hown.1)
    subst hx
    have hr := run_append_nil (P := P) w t ty e i z ht hi hz p m c news hl hnews hm (by omega) (by have hb := hbytes; simp only [Nat.zero_add] at hb; omega)
    have hgr := grown 0 (by omega)
    simp only [Nat.zero_add, List.nil_append, Array.empty_append] at hgr ⊢
    exact ⟨_, _, hr, hgr, .inr ⟨rfl, hbel _, by simp⟩⟩
  · by_cases hroom : n + m ≤ cap
    · have hfit : n * i.size + news.length ≤ cur.size := by rw [hl, hcs, ← Nat.add_mul]; exact Nat.mul_le_mul_right _ hroom
      have hr := run_append_room (P := P) w t ty e i ht hi g n cap cur hg p m c news hl hnews h1 hroom hfit
      have hfit' : n * i.size + news.length ≤ cur.toList.length := by simpa using hfit
      refine ⟨_, _, hr, ⟨hlen, .inr ⟨g, cap, _, rfl, hbg, setRow_heap w g cur _ e _ hg, hroom, hcm, ?_, ?_⟩⟩, .inl ⟨g, rfl, rfl, rfl, .rfl', rfl, by simp, fun k hk => setRow_other w g k _ hk, fun o ho => ?_⟩⟩
      · simp only [List.size_toArray]
        rw [spl_len hfit']
        simpa using hcs
      · simp only
        rw [htake, ← hlen]
        exact List.take_left
      · rw [cell_setRow_same w g o cur _ e (0, 0) hg, cell_of_row w g o cur e (0, 0) hg, List.getElem?_toArray, spl_get' hfit', if_neg (by omega), Array.getElem?_toList]
    · have holds : ∀ j u, xs[j]? = some u → w.cell? ((⟨g, 0, none⟩ : Addr).add j) = some u := hown.cells (g := g) rfl
      have hr := run_append_grow (P := P) w t ty e i z ht hi hz ⟨g, 0, none⟩ n cap xs hown.1 holds p m c news hl hnews (by omega) (by omega) (growslice_fits (by omega) hbytes)
      exact ⟨_, _, hr, grown cap (by omega), .inr ⟨rfl, hbel _, by simp⟩⟩

theorem run_append_none (t ty e : TypeId) (i : TypeInfo) (size : Nat) (ht : P.underlying t = some (.slice e)) (hi : P.info? e = some i) (base : Nat)
    (v : Value) (n : Nat) (xs : List Value) (hown : w.ownsRow base e size v n xs) (p : Option Addr) (c : Nat) : (Builtin.append_ #[t, t] ty #[v, .slice p 0 c]).run P w = .ok v w := by
  have hf : (Builtin.firstCells i.size 0 (.slice p 0 c)).run P w = .ok #[] w := by
    cases p with
    | none => simp [Builtin.firstCells]
    | some p => simp [Builtin.firstCells, loadCells, loadCellsFrom]
  rcases hown.2 with ⟨rfl, rfl⟩ | ⟨g, cap, cur, rfl, _, _, hnc, _⟩
  · simp [Builtin.append_, run_underlying ht, sizeOf, typeInfo, hi, Builtin.lenOf, hf]
  · simp [Builtin.append_, run_underlying ht, sizeOf, typeInfo, hi, Builtin.lenOf, hnc, hf, storeCells]

/-- The cells of a source, laid out. -/
theorem flatten {es : List D} {sz g o : Nat} (hsz : ∀ (i : Nat) e, es[i]? = some e → e.cells.length = sz ∧ e.flat = true)
    (hc : ∀ (i : Nat) e (j : Nat) c, es[i]? = some e → e.cells[j]? = some c → ∃ u, w.cell? ⟨g, o + i * sz + j, none⟩ = some u ∧ Rep w A c u) :
    ∃ news : List Value, news.length = es.length * sz ∧ (∀ (k : Nat) u, news[k]? = some u → w.cell? ((⟨g, o, none⟩ : Addr).add k) = some u) ∧ (∀ u ∈ news, u.oneCell' = true) ∧
      ∀ (i : Nat) e (j : Nat) c u, es[i]? = some e → e.cells[j]? = some c → news[i * sz + j]? = some u → Rep w A c u := by
  rcases Nat.eq_zero_or_pos sz with h0 | hpos
  · subst h0
    refine ⟨[], by simp, by simp, by simp, fun i e j c u he hcj => ?_⟩
    have := lt_of_get hcj
    rw [(hsz i e he).1] at this
    omega
  · let news : List Value := (List.range (es.length * sz)).map fun k => (w.cell? ⟨g, o + k, none⟩).getD undef
    have hlen : news.length = es.length * sz := by simp [news]
    have at_ : ∀ (k : Nat) u, news[k]? = some u → ∃ (i : Nat) (e : D) (j : Nat) (c : D), es[i]? = some e ∧ e.cells[j]? = some c ∧ k = i * sz + j ∧ w.cell? ⟨g, o + k, none⟩ = some u ∧ Rep w A c u := by
      intro k u hk
      have hlt : k < es.length * sz := by rw [← hlen]; exact lt_of_get hk
      have hi : k / sz < es.length := (Nat.div_lt_iff_lt_mul hpos).2 hlt
      have hj : k % sz < sz := Nat.mod_lt _ hpos
      have hk' : k = k / sz * sz + k % sz := by rw [Nat.mul_comm]; exact (Nat.div_add_mod k sz).symm
      have he : es[k / sz]? = some es[k / sz] := List.getElem?_eq_getElem hi
      have hcl := (hsz _ _ he).1
      have hcj : es[k / sz].cells[k % sz]? = some (es[k / sz].cells[k % sz]'(by omega)) := List.getElem?_eq_getElem (by omega)
      obtain ⟨u', h1, h2⟩ := hc _ _ _ _ he hcj
      rw [Nat.add_assoc, ← hk'] at h1
      have : u = u' := by
        simp only [news, List.getElem?_map, Option.map_eq_some_iff] at hk
        obtain ⟨k2, hk2, rfl⟩ := hk
        rw [List.getElem?_range hlt] at hk2
        cases hk2
        rw [h1]; rfl
      subst this
      exact ⟨_, _, _, _, he, hcj, hk', h1, h2⟩
    refine ⟨news, hlen, fun k u hk => ?_, fun u hu => ?_, fun i e j c u he hcj hk => ?_⟩
    · obtain ⟨_, _, _, _, _, _, _, h1, _⟩ := at_ k u hk
      rw [Addr.add_mid]; exact h1
    · obtain ⟨k, hk⟩ := List.getElem?_of_mem hu
      obtain ⟨i, e, j, c, he, hcj, _, _, h2⟩ := at_ k u hk
      exact h2.oneV (flat_one (hsz i e he).2 c (List.mem_of_getElem? hcj))
    · obtain ⟨u', h1, h2⟩ := hc i e j c he hcj
      have hlt : i * sz + j < es.length * sz := by rw [← hlen]; exact lt_of_get hk
      have : u = u' := by
        simp only [news, List.getElem?_map, Option.map_eq_some_iff] at hk
        obtain ⟨k2, hk2, rfl⟩ := hk
        rw [List.getElem?_range hlt] at hk2
        cases hk2
        rw [← Nat.add_assoc, h1]; rfl
      subst this
      exact h2

/-- A source: its elements, and where they lie. -/
structure Src (w : World) (A : Sta) (sz : Nat) (es : List D) (u : Value) : Prop where
  hsz : ∀ (i : Nat) e, es[i]? = some e → e.cells.length = sz ∧ e.flat = true
  at_ : (es = [] ∧ ∃ p c, u = .slice p 0 c) ∨ ∃ g o c, u = .slice (some ⟨g, o, none⟩) es.length c ∧
    ∀ (i : Nat) e (j : Nat) c, es[i]? = some e → e.cells[j]? = some c → ∃ u, w.cell? ⟨g, o + i * sz + j, none⟩ = some u ∧ Rep w A c u

theorem srcK_out {sz : Nat} {x : AV} {u : Value} {k : List D → Res} {v : AV} {ups} (hI : Inv w0 A0 N L A T B a w) (hx : RV L w A x u) (ho : Out P oc (srcK B sz x k) v ups) :
    ∃ es, Out P oc (k es) v ups ∧ Src w A sz es u := by
  unfold srcK at ho
  split at ho
  · rename_i sz' es
    split at ho
    · rename_i hs
      have hs := Nat.eq_of_beq_eq_true hs
      subst hs
      refine ⟨es, ho, ?_⟩
      rcases rv_sl hx with ⟨rfl, p, c, hv⟩ | ⟨g, o, c, uu, hv, h1, h2, h3, h4⟩
      · exact ⟨by simp, .inl ⟨rfl, p, c, hv⟩⟩
      · exact ⟨h2, .inr ⟨g, o, c, hv, fun i e j c he hc => ⟨_, (h3 i e j c he hc).2, h4 i e j c he hc⟩⟩⟩
    · cases ho
  · refine ⟨[], ho, by simp, .inl ⟨rfl, none, 0, rv_nil hx⟩⟩
  · rename_i b sz' n
    split at ho
    · rename_i et sz'' es fz hbx
      split at ho
      · rename_i hs
        have hs := Nat.eq_of_beq_eq_true hs
        subst hs
        refine ⟨es, ho, ?_⟩
        have hx := rv_own hx
        obtain ⟨xs, ⟨hl, hr⟩, h2, h3, h4, h5⟩ := hI.bxs b _ hbx
        refine ⟨h2, ?_⟩
        rcases hr with ⟨hn, h0⟩ | ⟨g, cap, cur, hv, _⟩
        · exact .inl ⟨List.eq_nil_of_length_eq_zero h0, none, 0, by rw [hx, hn]⟩
        · have hgι : g = L.ι b := h4 g (by rw [hv]; rfl)
          subst hgι
          refine .inr ⟨L.ι b, 0, cap, by rw [hx, hv], fun i e j c he hc => ?_⟩
          obtain ⟨_, _, _, _, _, _, _, _, g7⟩ := row_cells hI hbx he
          rw [Nat.zero_add]
          exact g7 j c hc
      · cases ho
    · cases ho
  · rename_i b vv i
    split at ho
    · rename_i et ie vv' rows hbx
      split at ho
      · rename_i hs
        have hs := Nat.eq_of_beq_eq_true hs
        subst hs
        cases ho with
        | need hv ho =>
          subst hv
          cases ho with
          | @pickR _ _ _ es _ _ he ho =>
            refine ⟨es, ho, ?_⟩
            have hx := rv_sub hx
            obtain ⟨_, ys, k1, k2, k3⟩ := mat_row hI hbx he
            refine ⟨k2, ?_⟩
            cases hob : (L.sub b vv i).ownBlock with
            | none =>
              obtain ⟨q1, q2⟩ := ownBlock_none k1 hob
              exact .inl ⟨List.eq_nil_of_length_eq_zero q2, none, 0, by rw [hx, q1]⟩
            | some g =>
              obtain ⟨cap, hsl, _, hl, hc⟩ := ownsRow_cells k1 hob
              refine .inr ⟨g, 0, cap, by rw [hx, hsl], fun i' e j c he' hc' => ?_⟩
              have hlt := lt_of_get he'
              have hj : j = 0 := by have := lt_of_get hc'; rw [(k2 i' e he').1] at this; omega
              subst hj
              have hy := List.getElem?_eq_getElem (l := ys) (i := i' * 1 + 0) (by omega)
              exact ⟨_, by rw [Nat.zero_add]; exact hc _ _ hy, k3 i' e 0 c _ he' hc' hy⟩
      · cases ho
    · cases ho
  · cases ho

/-- A row of a matrix goes: its header is stale from now on. -/
theorem Inv.punch (h : Inv w0 A0 N L A T B a w) {b et ie v i : Nat} {rows : List (Option (List D))} {es : List D} (hx : B b = some (.mat et ie v rows)) (hi : rows[i]? = some (some es)) :
    Inv w0 A0 N L A T (upd B b (some (.mat et ie v (rows.set i none)))) a w ∧
      ∀ g, (L.sub b v i).ownBlock = some g → ∀ b' x', upd B b (some (.mat et ie v (rows.set i none))) b' = some x' → ¬ own L b' x' g := by
  obtain ⟨xs, g1, g2, g3, g4, g5, g6, g7⟩ := h.bxs b _ hx
  have hset : ∀ (i' : Nat) es', (rows.set i none)[i']? = some (some es') → i' ≠ i ∧ rows[i']? = some (some es') := by
    intro i' es' h
    rw [List.getElem?_set] at h
    by_cases e : i = i'
    · subst e
      rw [if_pos rfl] at h
      split at h <;> simp at h
    · rw [if_neg e] at h
      exact ⟨fun e' => e e'.symm, h⟩
  have hsub : ∀ g, own L b (.mat et ie v (rows.set i none)) g → own L b (.mat et ie v rows) g := by
    rintro g (h | ⟨i', es', h, h'⟩)
    · exact .inl h
    · exact .inr ⟨i', es', (hset i' es' h).2, h'⟩
  have hne : ∀ b', B b' ≠ none → upd B b (some (.mat et ie v (rows.set i none))) b' ≠ none := by
    intro b' hb'
    by_cases e : b' = b
    · subst e; rw [upd_same]; simp
    · rwa [upd_ne _ _ e]
  refine ⟨h.turns (fun b' => b' = b) (own L b (.mat et ie v rows)) rfl .rfl' rfl (Nat.le_refl _) (fun g hg => h.lo b _ g hx hg) (fun g b' y hg hk hy hg' => hk (h.inj b' b y _ g hy hx hg' hg)) (fun _ _ _ => rfl) (fun _ _ _ => rfl)
    (fun _ _ h => h) h.Aok (fun _ _ h => .inl h) (fun _ _ => .rfl') (fun _ _ _ => rfl) (fun b' hb' => upd_ne _ _ hb') hne (fun b' _ hb' => ?_) ?_ ?_ ?_, fun g hg b' x' hx' ho => ?_⟩
  · by_cases e : b' = b
    · subst e; rw [hx]; simp
    · rwa [upd_ne _ _ e] at hb'
  · rintro b' y rfl hy
    rw [upd_same] at hy; cases hy
    refine ⟨⟨xs, by rw [List.length_set]; exact g1, g2, g3, fun i' es' he => g4 i' es' (hset i' es' he).2, fun i1 i2 e1 e2 k h1 h2 h3 h4 => g5 i1 i2 e1 e2 k (hset _ _ h1).2 (hset _ _ h2).2 h3 h4,
      fun i' es' k he hk => g6 i' es' k (hset _ _ he).2 hk, fun k hk o => g7 k (hsub k hk) o⟩, hsub⟩
  · rintro b1 b2 x1 x2 g rfl rfl _ _ _ _; rfl
  · rintro b' y b'' rfl hy hm
    rw [upd_same] at hy; cases hy
    cases hm
  · by_cases e : b' = b
    · subst e
      rw [upd_same] at hx'; cases hx'
      rcases ho with ho | ⟨i', es', he, ho⟩
      · exact g6 i es g hi hg ho
      · obtain ⟨q1, q2⟩ := hset i' es' he
        exact q1 (g5 i' i es' es g q2 hi ho hg)
    · rw [upd_ne _ _ e] at hx'
      exact e (h.inj b' b x' _ g hx' hx ho (.inr ⟨i, es, hi, hg⟩))

theorem killB_inv' {b b' : Nat} {x' : Bx} (h : killB B b b' = some x') : b' ≠ b ∧ ∃ x, B b' = some x ∧ ∀ (L : Lay) g, own L b' x' g ↔ own L b' x g := killB_inv h
/-- What is appended to, when its old name has gone. -/
structure OldR (w0 : Ent) (L : Lay) (w : World) (A : Sta) (B : Nat → Option Bx) (e sz : Nat) (es : List D) (fz : Bool) (u : Value) : Prop where
  row : ∃ xs, w.ownsRow w0.B0 e sz u es.length xs ∧ (∀ (i : Nat) e, es[i]? = some e → e.cells.length = sz ∧ e.flat = true) ∧
    ∀ (i : Nat) e (j : Nat) c v, es[i]? = some e → e.cells[j]? = some c → xs[i * sz + j]? = some v → Rep w A c v
  free : ∀ g, u.ownBlock = some g → (w0.own g ∧ g < w.heap.size) ∧ (∀ b' x', B b' = some x' → ¬ own L b' x' g) ∧ ∀ o, A g o → fz = true ∧ o < es.length * sz

/-- A name is given up. -/
theorem kil_step {dr : Bool} {c : Nat} (hI : Inv w0 A0 N L A T B a w) (hc : B c ≠ none) {dst : Option Nat} {rest : List (Nat × Option Bx)} {T1 : Nat → AV} {B1 : Nat → Option Bx} (hu : UpsR dst (kil dr c :: rest) T B T1 B1) :
    ∃ Tk Bk, Inv w0 A0 N L A Tk Bk a w ∧ UpsR dst rest Tk Bk T1 B1 ∧ (∀ b' x' g, Bk b' = some x' → own L b' x' g → b' ≠ c ∧ ∃ y, B b' = some y ∧ own L b' y g) ∧ ∀ b', b' ≠ c → B b' ≠ none → Bk b' ≠ none := by
  cases hx : B c with
  | none => exact absurd hx hc
  | some x =>
  cases dr with
  | true =>
    have key : ∀ {dst rest T1 B1}, UpsR dst ((c, some .gone) :: rest) T B T1 B1 → UpsR dst rest T (upd B c (some .gone)) T1 B1 := by
      intro dst rest T1 B1 hu
      cases hu with
      | set _ _ _ h => exact h
      | new _ _ hn => rw [hx] at hn; cases hn
    refine ⟨_, _, hI.gone hx, key hu, fun b' x' g hx' ho => ?_, fun b' hne hb' => ?_⟩
    · by_cases e : b' = c
      · subst e; rw [upd_same] at hx'; cases hx'; exact ho.elim
      · rw [upd_ne _ _ e] at hx'; exact ⟨e, x', hx', ho⟩
    · rw [upd_ne _ _ hne]; exact hb'
  | false =>
    cases hu with
    | kill hu =>
      refine ⟨_, _, hI.kill c, hu, fun b' x' g hx' ho => ?_, fun b' hne hb' => ?_⟩
      · obtain ⟨q1, y, q2, q3⟩ := killB_inv hx'
        exact ⟨q1, y, q2, (q3 L g).1 ho⟩
      · unfold killB
        rw [if_neg hne]
        cases hy : B b' with
        | none => exact absurd hy hb'
        | some y => simp
/-- What is appended to. -/
theorem oldK_out {dr : Bool} {e sz : Nat} {x : AV} {u : Value} {k : List D → Bool → List (Nat × Option Bx) → Res} {v : AV} {ups} (hI : Inv w0 A0 N L A T B a w) (hx : RV L w A x u) (ho : Out P oc (oldK B dr e sz x k) v ups) :
    ∃ es fz kill, Out P oc (k es fz kill) v ups ∧ ∀ {dst rest T1 B1}, UpsR dst (kill ++ rest) T B T1 B1 → ∃ Tk Bk, Inv w0 A0 N L A Tk Bk a w ∧ UpsR dst rest Tk Bk T1 B1 ∧ OldR w0 L w A Bk e sz es fz u := by
  unfold oldK at ho
  split at ho
  · refine ⟨[], false, [], ho, fun hu => ⟨T, B, hI, hu, ⟨[], ?_, by simp, by simp⟩, fun g hg => ?_⟩⟩
    · rw [rv_nil hx]; exact ⟨by simp, .inl ⟨rfl, rfl⟩⟩
    · rw [rv_nil hx] at hg; simp [Value.ownBlock] at hg
  · rename_i b sz' n
    split at ho
    · rename_i e' sz'' es fz hbx
      split at ho
      · rename_i h1 h2
        have h1 := Nat.eq_of_beq_eq_true h1
        have h2 := Nat.eq_of_beq_eq_true h2
        subst h1; subst h2
        refine ⟨es, fz, _, ho, fun hu => ?_⟩
        cases dr with
        | true =>
          obtain ⟨xs, g1, g2, g3, g4, g5⟩ := hI.bxs b _ hbx
          rw [rv_own hx]
          have key : ∀ {dst rest T1 B1}, UpsR dst ((b, some .gone) :: rest) T B T1 B1 → UpsR dst rest T (upd B b (some .gone)) T1 B1 := by
            intro dst rest T1 B1 hu
            cases hu with
            | set _ _ _ h => exact h
            | new _ _ hn => rw [hbx] at hn; cases hn
          refine ⟨_, _, hI.gone hbx, key hu, ⟨xs, g1, g2, g3⟩, fun g hg => ⟨hI.lo b _ g hbx hg, fun b' x' hx' ho' => ?_, fun o ho' => ?_⟩⟩
          · by_cases eb : b' = b
            · subst eb; rw [upd_same] at hx'; cases hx'; exact ho'
            · rw [upd_ne _ _ eb] at hx'
              exact eb (hI.inj b' b x' _ g hx' hbx ho' hg)
          · have := g4 g hg
            subst this
            exact g5 (ownBlock_ne hg) o ho'
        | false =>
        cases hu with
        | kill hu =>
          obtain ⟨xs, g1, g2, g3, g4, g5⟩ := hI.bxs b _ hbx
          rw [rv_own hx]
          refine ⟨_, _, hI.kill b, hu, ⟨xs, g1, g2, g3⟩, fun g hg => ⟨hI.lo b _ g hbx hg, fun b' x' hx' ho' => ?_, fun o ho' => ?_⟩⟩
          · obtain ⟨q1, y, q2, q3⟩ := killB_inv hx'
            exact q1 (hI.inj b' b y _ g q2 hbx ((q3 L g).1 ho') hg)
          · have := g4 g hg
            subst this
            exact g5 (ownBlock_ne hg) o ho'
      · cases ho
    · cases ho
  · rename_i b vv i
    split at ho
    · rename_i et ie vv' rows hbx
      split at ho
      · rename_i h1 h2
        have h1 := Nat.eq_of_beq_eq_true h1
        have h2 := Nat.eq_of_beq_eq_true h2
        subst h1; subst h2
        cases ho with
        | need hv ho =>
          subst hv
          cases ho with
          | @pickR _ _ _ es _ _ he ho =>
            refine ⟨es, false, _, ho, fun hu => ?_⟩
            have hu' := by
              rw [List.cons_append] at hu
              exact hu
            have key : ∀ {dst rest T1 B1}, UpsR dst ((b, some (.mat et ie vv (rows.set i none))) :: rest) T B T1 B1 → UpsR dst rest T (upd B b (some (.mat et ie vv (rows.set i none)))) T1 B1 := by
              intro dst rest T1 B1 hu
              cases hu with
              | set _ _ _ h => exact h
              | new _ _ hn => rw [hbx] at hn; cases hn
            obtain ⟨p1, p2⟩ := hI.punch hbx he
            obtain ⟨_, ys, k1, k2, k3⟩ := mat_row hI hbx he
            obtain ⟨_, _, _, _, _, _, _, g7⟩ := hI.bxs b _ hbx
            rw [rv_sub hx]
            refine ⟨_, _, p1, key hu', ⟨ys, k1, k2, k3⟩, fun g hg => ⟨hI.lo b _ g hbx (.inr ⟨i, es, he, hg⟩), p2 g hg, fun o ho' => absurd ho' (g7 g (.inr ⟨i, es, he, hg⟩) o)⟩⟩
      · cases ho
    · cases ho
  · cases ho

/-- The heir of a row: what was there, and what came. -/
theorem heir {base et sz : Nat} {es new : List D} {xs news : List Value} {w' : World} {A : Sta} {hd' : Value} {g : Nat} {fz : Bool} {L' : Lay} {t : Nat}
    (hιt : L'.ι t = g) (hhd : L'.hd t = hd') (hxl : xs.length = es.length * sz)
    (hown : w'.ownsRow base et sz hd' (es.length + new.length) (xs ++ news)) (h2 : ∀ (i : Nat) e, es[i]? = some e → e.cells.length = sz ∧ e.flat = true) (h2' : ∀ (i : Nat) e, new[i]? = some e → e.cells.length = sz ∧ e.flat = true)
    (h3 : ∀ (i : Nat) e (j : Nat) c v, es[i]? = some e → e.cells[j]? = some c → xs[i * sz + j]? = some v → Rep w' A c v)
    (h3' : ∀ (i : Nat) e (j : Nat) c v, new[i]? = some e → e.cells[j]? = some c → news[i * sz + j]? = some v → Rep w' A c v)
    (hb : hd'.ownBlock = some g) (hA : ∀ o, A g o → fz = true ∧ o < es.length * sz) : BR base L' w' A t (.row et sz (es ++ new) fz) := by
  refine ⟨xs ++ news, by rw [hhd, List.length_append]; exact hown, ?_, ?_, ?_, ?_⟩
  · intro i e he
    rcases Nat.lt_or_ge i es.length with h | h
    · rw [List.getElem?_append_left h] at he; exact h2 i e he
    · rw [List.getElem?_append_right h] at he; exact h2' _ e he
  · intro i e j c v he hc hv
    rcases Nat.lt_or_ge i es.length with h | h
    · rw [List.getElem?_append_left h] at he
      have hj : j < sz := by rw [← (h2 i e he).1]; exact lt_of_get hc
      have : (i + 1) * sz ≤ es.length * sz := Nat.mul_le_mul_right _ h
      rw [Nat.add_mul] at this
      rw [List.getElem?_append_left (by omega)] at hv
      exact h3 i e j c v he hc hv
    · rw [List.getElem?_append_right h] at he
      have hij : i * sz + j = es.length * sz + ((i - es.length) * sz + j) := by
        have : i = es.length + (i - es.length) := by omega
        have h5 : i * sz = es.length * sz + (i - es.length) * sz := by rw [← Nat.add_mul, ← this]
        omega
      rw [hij, ← hxl, List.getElem?_append_right (by omega)] at hv
      refine h3' _ e j c v he hc ?_
      rw [← hv]; congr 1; omega
  · intro g' hg'; rw [hhd, hb] at hg'; cases hg'; exact hιt.symm
  · intro _ o ho
    rw [hιt] at ho
    have := hA o ho
    refine ⟨this.1, ?_⟩
    rw [List.length_append, Nat.add_mul]; omega

end
end Go.Vm
