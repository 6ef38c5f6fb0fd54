/- Each operation, third part: stores, arithmetic, addresses, slices of strings and lists. -/
import Derived.Test.YtgfaonnajdoeoaaVmF
namespace Go.Vm
open Go.RowKit (Below)
section
variable {P : Program} {S : Tys}
variable {w0 : World} {A0 : Sta} {N : Nat} {L : Lay} {A : Sta} {T : Nat → AV} {B : Nat → Option Bx} {a : Act} {w : World}

theorem run_storeVar_at {t : TypeId} {ti : TI} (ht : TyOk P t ti) {g o et : Nat} {C : Array Value} {u : Value} (hg : w.heap[g]? = some (.cells C et (0, 0))) (hl : u.cells.size = ti.size)
    (hfit : o + u.cells.size ≤ C.size) (h1 : ∀ v ∈ u.cells.toList, v.oneCell' = true) :
    (storeVar t ⟨g, o, none⟩ u).run P w = .ok () (w.setRow g (C.toList.take o ++ u.cells.toList ++ C.toList.drop (o + u.cells.toList.length)).toArray) := by
  have h := run_storeCells_at (P := P) g o et u.cells.toList 0 C w hg (by simpa using hfit) h1
  simp only [Nat.add_zero] at h
  simp only [storeVar, Sem.run_bind, ht.run_size, Result.andThen_ok, hl, ne_eq, not_true_eq_false, if_false, h]

theorem upsOne {dst : Option Nat} {b : Nat} {x : Bx} {T1 : Nat → AV} {B1 : Nat → Option Bx} (h : UpsR dst [(b, some x)] T B T1 B1) (hb : B b ≠ none) :
    T1 = T ∧ B1 = upd B b (some x) ∧ ∀ b', Bx.men b' x = true → B b' ≠ none := by
  cases h with
  | set _ _ hm h => cases h; exact ⟨rfl, rfl, hm⟩
  | new _ hn => exact absurd hn hb

theorem undef_fin {dst : Option Nat} {T2 : Nat → AV} (h : Inv w0 A0 N L A T B a w) (hp : PutR N dst .undef T B T2) : Inv w0 A0 N L A T2 B (a.put dst undef) w := fin h .undef hp

theorem s_store (hS : TysOk P S) {dst type pos after guard} (t : TypeId) (x y : Operand) : Sound P S ⟨dst, .store t x y, type, pos, after, guard⟩ := by
  refine ⟨?_⟩
  intro w0 A0 N L A T B a w v ups T1 B1 T2 K Q hI ho hu hp hK
  have hx := ev_rv hI x
  have hy := resz_rv (S := S) (t := t) (ev_rv hI y)
  simp only [eff] at ho
  split at ho
  · rename_i ti ht
    have ht := hS _ _ ht
    split at ho
    · rename_i l hl
      obtain ⟨hlc, hs⟩ := partC_cells hl
      obtain ⟨k1, k2, k3⟩ := hy.cells hs (partC_notTup hl hy)
      rw [← hlc] at k1 k2 k3
      have hone : ∀ v ∈ (a.eval y).cells.toList, v.oneCell' = true := by
        intro v hv
        obtain ⟨j, hj⟩ := List.getElem?_of_mem hv
        have hlt := lt_of_get hj
        have hc : l[j]? = some (l[j]'(by simp at hlt; omega)) := List.getElem?_eq_getElem _
        exact (k3 j _ v hc (by simpa using hj)).oneV (k2 _ (List.mem_of_getElem? hc))
      cases ho with
      | need hsz ho =>
        have hcs : (a.eval y).cells.size = ti.size := by rw [← k1]; exact hsz
        split at ho
        · rename_i b off hb
          rw [hb] at hx
          have hx := rv_ptr hx
          split at ho
          · rename_i cs hbx
            split at ho
            · rename_i cs' hset
              cases ho
              obtain ⟨C, et, h1, h2, h3, h4⟩ := hI.bxs b _ hbx
              obtain ⟨e1, e2⟩ := setL_spec _ _ _ _ hset
              obtain ⟨rfl, rfl, hm⟩ := upsOne hu (by rw [hbx]; simp)
              have hrun := run_storeVar_at (w := w) ht (o := off) h1 hcs (by omega) hone
              have hfit : off + (a.eval y).cells.toList.length ≤ C.toList.length := by simp; omega
              have hI' := hI.store (w' := w.setRow (L.ι b) (C.toList.take off ++ (a.eval y).cells.toList ++ C.toList.drop (off + (a.eval y).cells.toList.length)).toArray) (x' := .var cs' false) hbx trivial (h4 rfl) rfl rfl rfl
                (by simp) (fun k hk => setRow_other _ _ _ _ hk) ?_ (fun _ => trivial) hm
              · refine zskip ?_ (hK _ _ _ _ (undef_fin hI' hp))
                simp [execOp, Instr.storeAt, Instr.sureAddr, hx, hrun]
              · have hA : ∀ g o, A g o → (w.setRow (L.ι b) (C.toList.take off ++ (a.eval y).cells.toList ++ C.toList.drop (off + (a.eval y).cells.toList.length)).toArray).cell? ⟨g, o, none⟩ = w.cell? ⟨g, o, none⟩ := by
                  intro g o hg
                  refine cell_setRow_other _ _ _ _ ?_
                  rintro rfl
                  exact h4 rfl o hg
                refine ⟨_, et, setRow_heap _ _ _ _ _ _ h1, ?_, fun j c u hc hu => ?_, fun _ => h4 rfl⟩
                · rw [e1, spl_len e2]
                  simp only [List.size_toArray]
                  rw [spl_len hfit]
                  simpa using h2
                · rw [e1, spl_get' e2] at hc
                  simp only [List.getElem?_toArray] at hu
                  rw [spl_get' hfit] at hu
                  have e3 : (a.eval y).cells.toList.length = l.length := by simp [k1]
                  rw [e3] at hu
                  split at hc
                  · rename_i hin
                    rw [if_pos hin] at hu
                    exact (k3 _ c u hc (by simpa using hu)).frame (fun _ _ h => h) hA fun _ _ => ⟨rfl, rfl⟩
                  · rename_i hin
                    rw [if_neg hin] at hu
                    exact (h3 j c u hc (by simpa using hu)).frame (fun _ _ h => h) hA fun _ _ => ⟨rfl, rfl⟩
            · cases ho
          · cases ho
        · rename_i b sz' i off hb
          rw [hb] at hx
          have hx := rv_eptr hx
          split at ho
          · rename_i et sz es hbx
            split at ho
            · rename_i ds hsz' hds
              have hsz' := Nat.eq_of_beq_eq_true hsz'
              subst hsz'
              have hds := allD_spec hds
              subst hds
              cases ho with
              | @pick _ _ _ e _ _ he ho =>
                obtain ⟨cap, cur, g1, g2, g3, g4, g5, g6, g7⟩ := row_cells hI hbx he
                obtain ⟨xs, ⟨hl1, hr⟩, h2, h3, h4, h5⟩ := hI.bxs b _ hbx
                have hi := lt_of_get he
                have hnn : L.hd b ≠ .slice none 0 0 := by rw [g1]; simp
                have hno : ∀ o, ¬ A (L.ι b) o := fun o ho => by have := (h5 hnn o ho).1; cases this
                -- the new element
                have key : ∀ e', e'.cells = e.cells.take off ++ ds ++ e.cells.drop (off + ds.length) → off + ds.length ≤ e.cells.length → e'.flat = true →
                    UpsR dst [(b, some (.row et sz' (es.set i e') false))] T B T1 B1 → PutR N dst .undef T1 B1 T2 →
                    Oper.wp P ⟨dst, .store t x y, type, pos, after, guard⟩ a w K Q := by
                  intro e' he' hfit hflat hu hp
                  obtain ⟨rfl, rfl, hm⟩ := upsOne hu (by rw [hbx]; simp)
                  have hlen : (a.eval y).cells.size = ds.length := by rw [← k1]; simp
                  have hle : i * sz' + sz' ≤ es.length * sz' := by
                    have : (i + 1) * sz' ≤ es.length * sz' := Nat.mul_le_mul_right _ hi
                    rwa [Nat.add_mul, Nat.one_mul] at this
                  have hcapsz : es.length * sz' ≤ cap * sz' := Nat.mul_le_mul_right _ g4
                  have hfit2 : (i * sz' + off) + (a.eval y).cells.size ≤ cur.size := by rw [g3, hlen]; omega
                  have hrun := run_storeVar_at (w := w) ht (o := i * sz' + off) g2 hcs hfit2 hone
                  have hfitL : i * sz' + off + (a.eval y).cells.toList.length ≤ cur.toList.length := by simpa using hfit2
                  have hA : ∀ g o, A g o → (w.setRow (L.ι b) (cur.toList.take (i * sz' + off) ++ (a.eval y).cells.toList ++ cur.toList.drop (i * sz' + off + (a.eval y).cells.toList.length)).toArray).cell? ⟨g, o, none⟩ = w.cell? ⟨g, o, none⟩ := by
                    intro g o hg
                    refine cell_setRow_other _ _ _ _ ?_
                    rintro rfl
                    exact hno o hg
                  have hI' := hI.store (w' := w.setRow (L.ι b) (cur.toList.take (i * sz' + off) ++ (a.eval y).cells.toList ++ cur.toList.drop (i * sz' + off + (a.eval y).cells.toList.length)).toArray) (x' := .row et sz' (es.set i e') false) hbx hnn hno rfl rfl rfl
                    (by simp) (fun k hk => setRow_other _ _ _ _ hk) ?_ (fun _ => hnn) hm
                  · refine zskip ?_ (hK _ _ _ _ (undef_fin hI' hp))
                    simp [execOp, Instr.storeAt, Instr.sureAddr, hx, hrun]
                  · -- the row as it reads now
                    have hcap' : cap ≤ maxLen ∧ w0.heap.size ≤ L.ι b ∧ cur.toList.take (es.length * sz') = xs := by
                      rcases hr with ⟨hn, _⟩ | ⟨g, cap', cur', hv, hlo, hh, _, hmx, _, htk⟩
                      · exact absurd hn hnn
                      · have hgι : g = L.ι b := h4 g (by rw [hv]; rfl)
                        subst hgι
                        rw [g1] at hv
                        rw [g2] at hh
                        simp only [Value.slice.injEq] at hv
                        simp only [Option.some.injEq, Obj.cells.injEq] at hh
                        obtain ⟨_, _, rfl⟩ := hv
                        obtain ⟨rfl, _⟩ := hh
                        exact ⟨hmx, hlo, htk⟩
                    obtain ⟨hmx, hlo, htk⟩ := hcap'
                    let new := cur.toList.take (i * sz' + off) ++ (a.eval y).cells.toList ++ cur.toList.drop (i * sz' + off + (a.eval y).cells.toList.length)
                    have hnl : new.length = cur.size := by simp only [new]; rw [spl_len hfitL]; simp
                    refine ⟨new.take (es.length * sz'), ⟨by rw [List.length_take, hnl, g3, List.length_set]; exact Nat.min_eq_left hcapsz, .inr ⟨L.ι b, cap, new.toArray, by simpa using g1, hlo, setRow_heap _ _ _ _ _ _ g2, by simpa using g4, hmx, by simp [hnl, g3], by simp⟩⟩, ?_, ?_, h4, fun _ o ho => absurd ho (hno o)⟩
                    · intro i' e1 he1
                      rw [List.getElem?_set] at he1
                      by_cases hii : i = i'
                      · rw [if_pos hii, if_pos hi] at he1
                        cases he1
                        refine ⟨?_, hflat⟩
                        rw [he', spl_len hfit, g5]
                      · rw [if_neg hii] at he1
                        exact h2 i' e1 he1
                    · intro i' e1 j c u he1 hc hu'
                      rw [List.getElem?_take] at hu'
                      split at hu'
                      · rename_i hlt
                        simp only [new] at hu'
                        rw [spl_get' hfitL] at hu'
                        have e3 : (a.eval y).cells.toList.length = ds.length := by simpa using hlen
                        rw [e3] at hu'
                        rw [List.getElem?_set] at he1
                        have hj : j < sz' := by
                          by_cases hii : i = i'
                          · rw [if_pos hii, if_pos hi] at he1
                            cases he1
                            have := lt_of_get hc
                            rw [he', spl_len hfit, g5] at this
                            exact this
                          · rw [if_neg hii] at he1
                            have := lt_of_get hc
                            rw [(h2 i' e1 he1).1] at this
                            exact this
                        have old : ∀ (k : Nat) e2 c2, es[i']? = some e2 → e2.cells[j]? = some c2 → cur.toList[i' * sz' + j]? = some u → Rep w A c2 u := by
                          intro _ e2 c2 h6 h7 h8
                          refine h3 i' e2 j c2 u h6 h7 ?_
                          rw [← htk, List.getElem?_take, if_pos]
                          · exact h8
                          · have : i' < es.length := lt_of_get h6
                            have : (i' + 1) * sz' ≤ es.length * sz' := Nat.mul_le_mul_right _ this
                            rw [Nat.add_mul] at this
                            omega
                        by_cases hii : i = i'
                        · subst hii
                          rw [if_pos rfl, if_pos hi] at he1
                          cases he1
                          rw [he', spl_get' hfit] at hc
                          split at hc
                          · rename_i hin
                            rw [if_pos (by omega)] at hu'
                            have : (ds.map AV.d)[j - off]? = some (.d c) := by simp [hc]
                            have e4 : i * sz' + j - (i * sz' + off) = j - off := by omega
                            rw [e4] at hu'
                            exact (rv_d (k3 (j - off) (.d c) u this (by simpa using hu'))).frame (fun _ _ h => h) hA
                          · rename_i hin
                            rw [if_neg (by omega)] at hu'
                            exact (old 0 e c he hc hu').frame (fun _ _ h => h) hA
                        · rw [if_neg hii] at he1
                          rw [if_neg] at hu'
                          · exact (old 0 e1 c he1 hc hu').frame (fun _ _ h => h) hA
                          · intro hin
                            have hoff : off + ds.length ≤ sz' := by omega
                            rcases Nat.lt_or_ge i i' with h9 | h9
                            · have : (i + 1) * sz' ≤ i' * sz' := Nat.mul_le_mul_right _ h9
                              rw [Nat.add_mul] at this
                              omega
                            · have : (i' + 1) * sz' ≤ i * sz' := Nat.mul_le_mul_right _ (by omega)
                              rw [Nat.add_mul] at this
                              omega
                      · cases hu'
                have hdone : ∀ c ∈ ds, c.one = true := fun c hc => k2 (.d c) (List.mem_map_of_mem hc)
                by_cases hag : ∃ cs, e = .agg cs
                · obtain ⟨cs, rfl⟩ := hag
                  dsimp only at ho
                  split at ho
                  · rename_i cs' hset
                    cases ho
                    obtain ⟨e1, e2⟩ := setL_spec _ _ _ _ hset
                    refine key (.agg cs') e1 e2 ?_ hu hp
                    simp only [D.flat, List.all_eq_true, e1]
                    intro c hc
                    simp only [List.mem_append] at hc
                    rcases hc with (hc | hc) | hc
                    · exact flat_one g6 c (List.mem_of_mem_take hc)
                    · exact hdone c hc
                    · exact flat_one g6 c (List.mem_of_mem_drop hc)
                  · cases ho
                · have hcl : e.cells = [e] := by cases e <;> first | rfl | exact absurd ⟨_, rfl⟩ hag
                  have ho' : Out P (match off, ds with
                    | 0, [x] => .ok .undef [(b, some (.row et sz' (es.set i x) false))]
                    | _, _ => .bad) v ups := by
                    cases e <;> first | exact ho | exact absurd ⟨_, rfl⟩ hag
                  have hex : off = 0 ∧ ∃ y1, ds = [y1] := by
                    split at ho' <;> first | exact ⟨rfl, _, rfl⟩ | cases ho'
                  obtain ⟨rfl, y1, rfl⟩ := hex
                  cases ho'
                  have h1y := hdone y1 (by simp)
                  have hcl' : y1.cells = [y1] := by cases y1 <;> first | rfl | cases h1y
                  refine key y1 (by rw [hcl, hcl']; simp) (by rw [hcl]; simp) (by cases y1 <;> first | rfl | cases h1y) hu hp
            · cases ho
          · cases ho
        · cases ho
    · cases ho
  · cases ho
end
end Go.Vm
