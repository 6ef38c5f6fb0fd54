/- Each operation, last part: 'clear' and 'copy' on slices that the call owns. -/
import Derived.Test.YticnipadahihhaaVmOn
import Derived.Lib.AppendZeros
namespace Go.Vm
open Go.RowKit (Below)
section
variable {P : Program} {S : Tys} {oc : Option Orc}
variable {w0 : Ent} {A0 : Sta} {N : Nat} {L : Lay} {A : Sta} {T : Nat → AV} {B : Nat → Option Bx} {a : Act} {w : World}

/-- Some elements of a row are written. -/
theorem rowSplice (hI : Inv w0 A0 N L A T B a w) {b et sz lo : Nat} {es nw : List D} {vs : List Value} (hbx : B b = some (.row et sz es false)) (hpos : 0 < nw.length) (hfit : lo + nw.length ≤ es.length) (hvl : vs.length = nw.length * sz)
    (h2 : ∀ (i : Nat) e, nw[i]? = some e → e.cells.length = sz ∧ e.flat = true) (h3 : ∀ (i : Nat) e (j : Nat) c v, nw[i]? = some e → e.cells[j]? = some c → vs[i * sz + j]? = some v → Rep w A c v) :
    ∃ C, w.heap[L.ι b]? = some (.cells C et (0, 0)) ∧ (L.hd b).ownBlock = some (L.ι b) ∧ lo * sz + vs.length ≤ C.size ∧
      Inv w0 A0 N L A T (upd B b (some (.row et sz (es.take lo ++ nw ++ es.drop (lo + nw.length)) false))) a (w.setRow (L.ι b) (C.toList.take (lo * sz) ++ vs ++ C.toList.drop (lo * sz + vs.length)).toArray) := by
  obtain ⟨xs, g1, g2, g3, g4, g5⟩ := hI.bxs b _ hbx
  have hob : (L.hd b).ownBlock = some (L.ι b) := by
    cases hob : (L.hd b).ownBlock with
    | none => have := (ownBlock_none g1 hob).2; omega
    | some g => rw [g4 g hob]
  have hfit' : lo * sz + vs.length ≤ es.length * sz := by
    rw [hvl, ← Nat.add_mul]; exact Nat.mul_le_mul_right _ hfit
  obtain ⟨C, q1, q2, q3⟩ := ownsRow_write g1 hob (lo * sz) vs hfit'
  have hno : ∀ o, ¬ A (L.ι b) o := fun o ho => by have := (g5 (ownBlock_ne hob) o ho).1; cases this
  have hA : ∀ g' o, A g' o → (w.setRow (L.ι b) (C.toList.take (lo * sz) ++ vs ++ C.toList.drop (lo * sz + vs.length)).toArray).cell? ⟨g', o, none⟩ = w.cell? ⟨g', o, none⟩ := by
    intro g' o hg'
    refine cell_setRow_other _ _ _ _ ?_
    rintro rfl
    exact hno o hg'
  refine ⟨C, q1, hob, q2, hI.store hbx (fun k o hk => by rw [g4 k hk]; exact hno o) rfl .rfl' rfl (by simp) (fun k hk => setRow_other _ _ _ _ (by rintro rfl; exact hk hob)) (fun _ => .rfl') (fun _ _ => rfl) ?_ (fun _ h => h) (fun b' hb' => (by cases hb'))⟩
  have hxl : xs.length = es.length * sz := g1.1
  refine ⟨_, by rw [spl_len hfit]; exact q3, fun i e he => ?_, fun i e j c v he hc hv => ?_, g4, fun _ o ho => absurd ho (hno o)⟩
  · rw [spl_get' hfit] at he
    split at he
    · exact h2 _ e he
    · exact g2 i e he
  · rw [spl_get' (by omega)] at hv
    rw [spl_get' hfit] at he
    split at he
    · rename_i hin
      have hj : j < sz := by rw [← (h2 _ e he).1]; exact lt_of_get hc
      obtain ⟨q, rfl⟩ : ∃ q, i = lo + q := ⟨i - lo, by omega⟩
      have e1 : lo + q - lo = q := by omega
      rw [e1] at he
      have hq : (q + 1) * sz ≤ nw.length * sz := Nat.mul_le_mul_right _ (lt_of_get he)
      rw [Nat.add_mul] at hq
      have e2 : (lo + q) * sz = lo * sz + q * sz := Nat.add_mul _ _ _
      rw [if_pos (by omega), show (lo + q) * sz + j - lo * sz = q * sz + j by omega] at hv
      exact (h3 q e j c v he hc hv).frame (fun _ _ h => h) hA
    · rename_i hin
      have hj : j < sz := by rw [← (g2 _ e he).1]; exact lt_of_get hc
      rw [if_neg] at hv
      · exact (g3 i e j c v he hc hv).frame (fun _ _ h => h) hA
      · intro hin'
        rcases Nat.lt_or_ge i lo with h9 | h9
        · have : (i + 1) * sz ≤ lo * sz := Nat.mul_le_mul_right _ h9
          rw [Nat.add_mul] at this
          omega
        · have : (lo + nw.length) * sz ≤ i * sz := Nat.mul_le_mul_right _ (by omega)
          rw [Nat.add_mul] at this
          omega

theorem zeroCells_get {z : Value} {n k i j : Nat} {v : Value} (hz : z.cells.size = k) (hj : j < k) (h : (Builtin.zeroCells z.cells n).toList[i * k + j]? = some v) : z.cells[j]? = some v := by
  rw [Array.getElem?_toList] at h
  simp only [Builtin.zeroCells, Array.getElem?_map, Option.map_eq_some_iff] at h
  obtain ⟨q, hq, rfl⟩ := h
  have hlt : i * k + j < n * z.cells.size := by
    rcases Nat.lt_or_ge (i * k + j) (n * z.cells.size) with h | h
    · exact h
    · rw [Array.getElem?_eq_none (by simpa using h)] at hq; cases hq
  rw [Array.getElem?_range, if_pos hlt] at hq
  cases hq
  have e : (i * k + j) % z.cells.size = j := by rw [hz, Nat.mul_comm, Nat.mul_add_mod, Nat.mod_eq_of_lt hj]
  rw [e]
  have : j < z.cells.size := by rw [hz]; exact hj
  rw [getElem!_pos z.cells j this]
  simp [this]

theorem rv_view' {b sz lo hi : Nat} {u : Value} (h : RV L w A (.view b sz lo hi) u) : ∃ g cap, (L.hd b).ownBlock = some g ∧ u = .slice (some ⟨g, lo * sz, none⟩) (hi - lo) cap := rv_view h

theorem s_clear (hS : TysOk P S) {dst type pos after guard} (args : Array Operand) (argTypes : Array TypeId) : Sound P S ⟨dst, .call { callee := .builtin .clear, args := args, argTypes := argTypes }, type, pos, after, guard⟩ := by
  refine ⟨?_⟩
  intro w0 A0 N L A T B a w v ups T1 B1 T2 K Q oc dr hoc hI ho hu hp hK
  simp only [eff] at ho
  split at ho
  · rename_i vx t tr hargs htys
    obtain ⟨l⟩ := args
    match l, hargs with
    | [x], hargs =>
      simp only [List.map_cons, List.map_nil, List.cons.injEq, and_true] at hargs
      have hx := ev_rv hI x
      rw [hargs] at hx
      have h0 : argTypes[0]? = some t := by rw [← Array.getElem?_toList, htys]; rfl
      unfold clearE at ho
      split at ho
      · rename_i b sz0 lo hi _h0
        split at ho
        · rename_i et sz es ti hbx hti
          have ht := hS _ _ hti
          split at ho
          · rename_i e hu1
            have htu : P.underlying t = some (.slice e) := by rw [ht.und, hu1]
            split at ho
            · rename_i te hte
              have hte := hS _ _ hte
              split at ho
              · rename_i z hz hsz hsz0
                have hsz0 := Nat.eq_of_beq_eq_true hsz0
                subst sz0
                have hsz := Nat.eq_of_beq_eq_true hsz
                cases ho with
                | need h1 ho =>
                  cases ho
                  obtain ⟨rfl, rfl, _⟩ := upsOne hu (by rw [hbx]; simp)
                  obtain ⟨g, cap, hg, hv⟩ := rv_view hx
                  obtain ⟨hfl, i, zv, z1, z2, z3, z4, z5, z6⟩ := zeroD hte hz (w := w) (A := A)
                  obtain ⟨zv', hzv, hzr⟩ := zeroV hte hz (w := w) (A := A)
                  have ezv : zv' = zv := by
                    have := hzv w
                    simp only [zeroValue, typeInfo, Sem.run_bind] at this
                    simp [z1, z2] at this
                    exact this.symm
                  subst ezv
                  have hcs : zv'.cells.size = sz := z4.trans hsz
                  have hvl : (Builtin.zeroCells zv'.cells (hi - lo)).toList.length = (List.replicate (hi - lo) z).length * sz := by
                    rw [Array.length_toList, size_zeroCells, hcs, List.length_replicate]
                  obtain ⟨C, k1, k2, k3, k4⟩ := rowSplice (lo := lo) (nw := List.replicate (hi - lo) z) (vs := (Builtin.zeroCells zv'.cells (hi - lo)).toList) hI hbx (by simp; omega) (by simp; omega) hvl
                    (fun i e he => by
                      have := List.eq_of_mem_replicate (List.mem_of_getElem? he)
                      subst this
                      exact ⟨z5.trans hsz, hfl⟩)
                    (fun i e j c v he hc hv' => by
                      have := List.eq_of_mem_replicate (List.mem_of_getElem? he)
                      subst this
                      have hj : j < sz := by rw [← hsz, ← z5]; exact lt_of_get hc
                      exact z6 j c v hc (zeroCells_get hcs hj hv'))
                  rw [hg] at k2
                  cases k2
                  rw [List.length_replicate, show lo + (hi - lo) = hi by omega] at k4
                  have hone : ∀ v ∈ (Builtin.zeroCells zv'.cells (hi - lo)).toList, v.oneCell' = true := by
                    intro v hv'
                    obtain ⟨q, hq⟩ := List.getElem?_of_mem hv'
                    have hq' := lt_of_get hq
                    rw [hvl] at hq'
                    have hpos : 0 < sz := by
                      rcases Nat.eq_zero_or_pos sz with h | h
                      · rw [h, Nat.mul_zero] at hq'; omega
                      · exact h
                    have hm : q % sz < sz := Nat.mod_lt _ hpos
                    have e : q / sz * sz + q % sz = q := Nat.div_add_mod' q sz
                    rw [← e] at hq
                    have h2 := zeroCells_get hcs hm hq
                    have hc : z.cells[q % sz]? = some z.cells[q % sz] := List.getElem?_eq_getElem (by rw [z5, hsz]; exact hm)
                    exact (z6 _ _ _ hc h2).oneV (flat_one hfl _ (List.mem_of_getElem? hc))
                  have hst := run_storeCells_at P (L.ι b) (lo * sz) et (Builtin.zeroCells zv'.cells (hi - lo)).toList 0 C w k1
                  refine zarr (u := .tuple #[]) ?_ (hK _ _ _ _ (fin k4 (.d (.tup rfl fun j c u hc => by simp at hc)) hp))
                  have hst' := hst (by simpa using k3) hone
                  obtain ⟨m, hm⟩ : ∃ m, hi - lo = m + 1 := ⟨hi - lo - 1, by omega⟩
                  rw [Nat.add_zero] at hst'
                  refine run_call_builtin (f := Builtin.clear_) (fun _ _ => rfl) ?_
                  rw [hm] at hst' hv ⊢
                  simp [Builtin.clear_, h0, hv, run_underlying htu, hzv, hst']
              · cases ho
            · cases ho
          · cases ho
        · cases ho
      · cases ho
  · cases ho

theorem srcV_out {sz : Nat} {x : AV} {u : Value} {k : List D → Res} {v : AV} {ups} (hI : Inv w0 A0 N L A T B a w) (hx : RV L w A x u) (ho : Out P oc (srcV B sz x k) v ups) :
    ∃ es, Out P oc (k es) v ups ∧ Src w A sz es u := by
  unfold srcV at ho
  split at ho
  · exact srcK_out (k := k) hI hx (by simpa [srcK] using ho)
  · exact ⟨[], ho, by simp, .inl ⟨rfl, none, 0, rv_nil hx⟩⟩
  · exact srcK_out (k := k) hI hx (by simpa [srcK] using ho)
  · rename_i b sz2 lo hi
    split at ho
    · rename_i et sz' es fz hbx
      split at ho
      · rename_i hs hs2
        have hs := Nat.eq_of_beq_eq_true hs
        have hs2 := Nat.eq_of_beq_eq_true hs2
        subst hs; subst hs2
        cases ho with
        | need h1 ho =>
          obtain ⟨g, cap, hg, hv⟩ := rv_view hx
          obtain ⟨xs, ⟨hl, hr⟩, h2, h3, h4, h5⟩ := hI.bxs b _ hbx
          have hgι := h4 g hg
          subst hgι
          have get : ∀ (i : Nat) c, ((es.take hi).drop lo)[i]? = some c → es[lo + i]? = some c := by
            intro i c hc
            rw [List.getElem?_drop, List.getElem?_take] at hc
            split at hc
            · exact hc
            · cases hc
          have hlen : ((es.take hi).drop lo).length = hi - lo := by rw [List.length_drop, List.length_take]; omega
          refine ⟨_, ho, fun i e he => h2 _ e (get i e he), .inr ⟨L.ι b, lo * sz2, cap, by rw [hlen]; exact hv, fun i e j c he hc => ?_⟩⟩
          obtain ⟨_, _, _, _, _, _, _, _, g7⟩ := row_cells hI hbx (get i e he)
          obtain ⟨u, q1, q2⟩ := g7 j c hc
          refine ⟨u, ?_, q2⟩
          rw [← q1, Nat.add_mul]
      · cases ho
    · cases ho
  · cases ho

theorem run_copy_own {ats : Array TypeId} {dT ty e : TypeId} {sz : Nat} (h0 : ats[0]? = some dT) (hu : P.underlying dT = some (.slice e)) (hs : ∀ w, (sizeOf e).run P w = .ok sz w) (g o dLen dCap : Nat) (p : Addr) (sLen sCap : Nat) (cur : Array Value) (t : TypeId) (cs : List Value)
    (hg : w.heap[g]? = some (.cells cur t (0, 0))) (hn : cs.length = min sLen dLen * sz) (hsrc : ∀ (j : Nat) v, cs[j]? = some v → w.cell? (p.add j) = some v) (hfit : o + cs.length ≤ cur.size) (h1 : ∀ v ∈ cs, v.oneCell' = true) :
    (Builtin.copy_ ats ty #[.slice (some ⟨g, o, none⟩) dLen dCap, .slice (some p) sLen sCap]).run P w =
      .ok (goInt (min sLen dLen : Nat)) (w.setRow g (cur.toList.take o ++ cs ++ cur.toList.drop (o + cs.length)).toArray) := by
  have hl := run_loadCells_list (P := P) w p cs hsrc
  have hst := run_storeCells_at P g o t cs 0 cur w hg (by simpa using hfit) h1
  have hn' : cs.length = Nat.min sLen dLen * sz := hn
  simp [Builtin.copy_, h0, run_underlying hu, Builtin.lenOf, Builtin.firstCells, hs, ← hn', hl, hst]

theorem run_copy_zero {ats : Array TypeId} {dT ty e : TypeId} {sz : Nat} (h0 : ats[0]? = some dT) (hu : P.underlying dT = some (.slice e)) (hs : ∀ w, (sizeOf e).run P w = .ok sz w) (d s : Option Addr) (dLen dCap sLen sCap : Nat) (h : min sLen dLen = 0) :
    (Builtin.copy_ ats ty #[.slice d dLen dCap, .slice s sLen sCap]).run P w = .ok (goInt 0) w := by
  have h' : Nat.min sLen dLen = 0 := h
  cases d <;> cases s <;> simp [Builtin.copy_, h0, run_underlying hu, Builtin.lenOf, Builtin.firstCells, hs, h', loadCells, loadCellsFrom, storeCells]

theorem dstV_out {b et sz lo hi : Nat} {es : List D} {x : AV} {u : Value} (hI : Inv w0 A0 N L A T B a w) (hx : RV L w A x u) (h : dstV B x = some (b, et, sz, es, lo, hi)) :
    B b = some (.row et sz es false) ∧ ∃ p cap, u = .slice p (hi - lo) cap ∧ (0 < hi - lo → p = some ⟨L.ι b, lo * sz, none⟩) := by
  unfold dstV at h
  split at h
  · rename_i b' sz0 n
    split at h
    · rename_i et' sz' es' hbx
      simp only [Option.some.injEq, Prod.mk.injEq] at h
      obtain ⟨rfl, rfl, rfl, rfl, rfl, rfl⟩ := h
      obtain ⟨xs, ⟨hl, hr⟩, h2, h3, h4, h5⟩ := hI.bxs _ _ hbx
      refine ⟨hbx, ?_⟩
      rw [rv_own hx, Nat.sub_zero]
      rcases hr with ⟨hn, h0⟩ | ⟨g, cap, cur, hv, _⟩
      · rw [hn, h0]
        exact ⟨none, 0, rfl, fun h => by omega⟩
      · rw [hv]
        refine ⟨_, cap, rfl, fun _ => ?_⟩
        have := h4 g (by rw [hv]; rfl)
        rw [this, Nat.zero_mul]
    · cases h
  · rename_i b' sz0 lo' hi'
    split at h
    · rename_i et' sz' es' hbx
      split at h
      · rename_i hs
        have hs := Nat.eq_of_beq_eq_true hs
        subst hs
        simp only [Option.some.injEq, Prod.mk.injEq] at h
        obtain ⟨rfl, rfl, rfl, rfl, rfl, rfl⟩ := h
        obtain ⟨g, cap, hg, hv⟩ := rv_view hx
        obtain ⟨xs, ⟨hl, hr⟩, h2, h3, h4, h5⟩ := hI.bxs _ _ hbx
        refine ⟨hbx, _, cap, hv, fun _ => ?_⟩
        rw [h4 g hg]
      · cases h
    · cases h
  · cases h

theorem s_copy (hS : TysOk P S) {dst type pos after guard} (args : Array Operand) (argTypes : Array TypeId) : Sound P S ⟨dst, .call { callee := .builtin .copy, args := args, argTypes := argTypes }, type, pos, after, guard⟩ := by
  refine ⟨?_⟩
  intro w0 A0 N L A T B a w v ups T1 B1 T2 K Q oc dr hoc hI ho hu hp hK
  simp only [eff] at ho
  split at ho
  · rename_i vx vy t tr hargs htys
    obtain ⟨x, y, rfl, rfl, rfl⟩ := map_two hargs
    have hx := ev_rv hI x
    have hy := ev_rv hI y
    have hat : argTypes[0]? = some t := by rw [← Array.getElem?_toList, htys]; rfl
    unfold copyE at ho
    split at ho
    · rename_i ti hti
      have ht := hS _ _ hti
      split at ho
      · rename_i e hu1
        have htu : P.underlying t = some (.slice e) := by rw [ht.und, hu1]
        split at ho
        · rename_i te hte
          have hte := hS _ _ hte
          split at ho
          · rename_i b et sz' es lo hi sz hd hsz
            split at ho
            · rename_i hs
              have hs := Nat.eq_of_beq_eq_true hs
              subst hs
              obtain ⟨new, ho, hsrc⟩ := srcV_out hI hy ho
              cases ho with
              | need h1 ho =>
                cases ho
                obtain ⟨hbx, p, cap, hv, hpv⟩ := dstV_out hI hx hd
                obtain ⟨rfl, rfl, _⟩ := upsOne hu (by rw [hbx]; simp)
                have hrun0 : ∀ w, (sizeOf e).run P w = .ok (sz + 1) w := fun w => by rw [hte.run_size, hsz]
                have hnl : (new.take (hi - lo)).length = min (hi - lo) new.length := List.length_take
                rcases Nat.eq_zero_or_pos (min (hi - lo) new.length) with h0 | hpos
                · have e0 : cpy es lo (hi - lo) new = es := by
                    have : new.take (hi - lo) = [] := List.eq_nil_of_length_eq_zero (by omega)
                    rw [cpy, this, h0, Nat.add_zero, List.append_nil, List.take_append_drop]
                  have eB : upd B b (some (.row et (sz + 1) (cpy es lo (hi - lo) new) false)) = B := by
                    funext b'
                    by_cases e : b' = b
                    · subst e; rw [upd_same, e0, hbx]
                    · exact upd_ne _ _ e
                  rw [eB] at hp hK
                  obtain ⟨p', c', hu'⟩ : ∃ p' c', a.eval y = .slice p' new.length c' := by
                    rcases hsrc.at_ with ⟨rfl, p', c', hu'⟩ | ⟨g', o', c', hu', _⟩
                    · exact ⟨p', c', hu'⟩
                    · exact ⟨_, c', hu'⟩
                  rw [h0] at hp
                  refine zarr (u := goInt 0) (run_call_builtin (f := Builtin.copy_) (fun _ _ => rfl) ?_) (hK _ _ _ _ (fin hI (.d (.int _ _)) hp))
                  simp only [List.map_toArray, List.map_cons, List.map_nil, hv, hu']
                  exact run_copy_zero hat htu hrun0 _ _ _ _ _ _ (by rw [Nat.min_comm]; exact h0)
                · rcases hsrc.at_ with ⟨rfl, _⟩ | ⟨g', o', c', hu', hcells⟩
                  · simp at hpos
                  · have get : ∀ (i : Nat) c, (new.take (hi - lo))[i]? = some c → new[i]? = some c := by
                      intro i c hc
                      rw [List.getElem?_take] at hc
                      split at hc
                      · exact hc
                      · cases hc
                    obtain ⟨cs, n1, n2, n3, n4⟩ := flatten (w := w) (A := A) (es := new.take (hi - lo)) (sz := sz + 1) (g := g') (o := o') (fun i e he => hsrc.hsz i e (get i e he)) fun i e j c he hc => hcells i e j c (get i e he) hc
                    obtain ⟨C, k1, k2, k3, k4⟩ := rowSplice (lo := lo) (nw := new.take (hi - lo)) (vs := cs) hI hbx (by omega) (by omega) n1 (fun i e he => hsrc.hsz i e (get i e he)) n4
                    rw [hnl] at k4
                    have hp0 := hpv (by omega)
                    subst hp0
                    refine zarr (u := goInt (min (hi - lo) new.length : Nat)) (run_call_builtin (f := Builtin.copy_) (fun _ _ => rfl) ?_) (hK _ _ _ _ (fin k4 (.d (.int _ _)) hp))
                    simp only [List.map_toArray, List.map_cons, List.map_nil, hv, hu']
                    rw [Nat.min_comm]
                    exact run_copy_own hat htu hrun0 _ _ _ _ _ _ _ _ _ _ k1 (by rw [n1, hnl, Nat.min_comm]) n2 k3 n3
            · cases ho
          · cases ho
        · cases ho
      · cases ho
    · cases ho
  · cases ho

theorem appZ_ok (hS : TysOk P S) : AppZ P S := by
  intro type pos after guard t s x ty ty' e ti ht hund oc w0 A0 N L A T B a w v ups T1 B1 T2 K Q hI ho hu hp hK
  have hsv := ev_rv hI s
  have hxv := ev_rv hI x
  have htu : P.underlying ty = some (.slice e) := by rw [ht.und, hund]
  unfold appZ at ho
  split at ho
  · rename_i q ik n e1 e2
    rw [e1] at hsv
    rw [e2] at hxv
    have hsv := rv_nil hsv
    have hxv := rv_int hxv
    split at ho
    · rename_i ti' te hti' hte
      have ht' := hS _ _ hti'
      have hte := hS _ _ hte
      split at ho
      · rename_i kn sz hund' hsz
        have hsz : te.size = sz + 1 := hsz
        have htn : P.underlying ty' = some (.int kn) := by rw [ht'.und, hund']
        split at ho
        · rename_i z hz
          cases ho with
          | need hb ho =>
            cases ho
            obtain ⟨h0, h1, h2⟩ := hb
            obtain ⟨m, rfl⟩ : ∃ m : Nat, n = m := ⟨n.toNat, by omega⟩
            rw [Int.toNat_natCast] at hu hp
            rw [← Int.natCast_mul] at h1
            obtain ⟨rfl, rfl, hn, hlt, _⟩ := upsOneNew rfl hu
            obtain ⟨hfl, i, zv, z1, z2, z3, z4, z5, z6⟩ := zeroD hte hz (w := w) (A := A)
            obtain ⟨i', _, q1, _, q3, _⟩ := hte.info
            rw [z1] at q1; cases q1
            have hcs : zv.cells.size = sz + 1 := z4.trans hsz
            have hrun := Lib.run_append_nil_zeros (P := P) w ty ty' type e i zv ik kn htu htn z1 z2 m (by omega) (by omega) (by omega) (by rw [q3]; omega)
            have hge := grownCap_ge w m 0 e
            have hcm : grownCap w m 0 e ≤ maxLen := grownCap_le_maxLen w m 0 e (by simp only [maxLen]; omega)
            have hl1 : (Builtin.zeroCells zv.cells m).toList.length = m * (sz + 1) := by rw [Array.length_toList, size_zeroCells, hcs]
            have hown : (w.drew.alloc (.cells (Builtin.zeroCells zv.cells m ++ Builtin.zeroCells zv.cells (grownCap w m 0 e - m)) e)).ownsRow w0.B0 e (sz + 1)
                (.slice (some ⟨w.heap.size, 0, none⟩) m (grownCap w m 0 e)) m (Builtin.zeroCells zv.cells m).toList := by
              refine ⟨hl1, .inr ⟨w.heap.size, _, _, rfl, hI.below.b0, heap_new w.drew _, hge, hcm, ?_, ?_⟩⟩
              · simp only [Array.size_append, size_zeroCells, hcs, ← Nat.add_mul]
                congr 1
                omega
              · rw [Array.toList_append, ← hl1]
                exact List.take_left
            have hbel : BelowD w (w.drew.alloc (.cells (Builtin.zeroCells zv.cells m ++ Builtin.zeroCells zv.cells (grownCap w m 0 e - m)) e)) := ⟨((Below.refl _ w).drew).alloc (Nat.le_refl _) _, Nat.le_succ _⟩
            obtain ⟨L', l1, l2⟩ := hI.heirs (g := w.heap.size) (fz := false) (es := []) (xs := []) (new := List.replicate m z) hn hlt (by simp) (by simpa using hown) (by simp)
              (fun i e he => by
                have := List.eq_of_mem_replicate (List.mem_of_getElem? he)
                subst this
                exact ⟨z5.trans hsz, hfl⟩) (by simp)
              (fun i e j c v he hc hv' => by
                have := List.eq_of_mem_replicate (List.mem_of_getElem? he)
                subst this
                have hj : j < sz + 1 := by rw [← hsz, ← z5]; exact lt_of_get hc
                exact z6 j c v hc (zeroCells_get hcs hj hv')) rfl hbel.os hbel.on hbel.output hbel.size (fun k hk _ => hbel.block k hk)
              (fun o ho => absurd (hI.Aok _ o ho) (by omega)) (fun o ho => absurd (hI.Aok _ o ho) (by omega)) (fun b' x' hx' hk => by have := (hI.lo b' x' _ hx' hk).2; omega) (.inl hI.below.size)
            rw [List.nil_append] at l2
            refine zarr (run_call_builtin (f := Builtin.append_) (fun _ _ => rfl) (by simpa [hsv, hxv] using hrun)) (hK _ _ _ _ (fin l2 ?_ hp))
            rw [← l1]
            exact .own _ _ _ (by rw [l1]; rfl)
        · cases ho
      · cases ho
    · cases ho
  · cases ho
end
end Go.Vm
