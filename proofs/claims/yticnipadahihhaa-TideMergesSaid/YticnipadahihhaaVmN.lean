/- Each operation, tenth part: literals and make. -/
import Derived.Test.YticnipadahihhaaVmM
import Derived.Great.BuildSlice
namespace Go.Vm
open Go.RowKit (Below)
section
variable {P : Program} {S : Tys}
variable {w0 : Ent} {A0 : Sta} {N : Nat} {L : Lay} {A : Sta} {T : Nat → AV} {B : Nat → Option Bx} {a : Act} {w : World}

theorem foldl_set (off : Nat) : ∀ (vs : List Value) (k : Nat) (C : Array Value), off + k + vs.length ≤ C.size →
    (vs.zipIdx k).foldl (fun cs p => cs.setIfInBounds (off + p.2) p.1) C = (C.toList.take (off + k) ++ vs ++ C.toList.drop (off + k + vs.length)).toArray
  | [], k, C, _ => by simp
  | v :: vs, k, C, h => by
    simp only [List.length_cons] at h
    rw [List.zipIdx_cons, List.foldl_cons, foldl_set off vs (k + 1) _ (by simp; omega)]
    congr 1
    have e := list_seg_step C.toList (off + k) v vs (by simp; omega)
    simpa [Array.toList_setIfInBounds, Nat.add_assoc] using e
theorem fill_one {place : Nat → Option (Nat × Nat)} {C : Array Value} {i off : Nat} {v : Value} {rest : List (Nat × Value)} (hp : place i = some (off, v.cells.size)) (hfit : off + v.cells.size ≤ C.size) :
    Instr.fill place C ((i, v) :: rest) = Instr.fill place (C.toList.take off ++ v.cells.toList ++ C.toList.drop (off + v.cells.toList.length)).toArray rest := by
  have h := foldl_set off v.cells.toList 0 C (by simpa using hfit)
  simp only [Nat.add_zero] at h
  simp only [Instr.fill, hp]
  rw [if_neg (by simp; omega)]
  congr 1
  rw [← Array.foldl_toList, Array.toList_zipIdx, ← h]

/-- Cells that stand for abstract ones. -/
def CR (L : Lay) (w : World) (A : Sta) (cs : List AV) (C : Array Value) : Prop := cs.length = C.size ∧ ∀ (j : Nat) c v, cs[j]? = some c → C[j]? = some v → RV L w A c v
theorem CR.splice {cs l : List AV} {C : Array Value} {u : Value} {off : Nat} {cs' : List AV} (h : CR L w A cs C) (hset : setL cs off l = some cs') (hl : l.length = u.cells.size)
    (hr : ∀ (j : Nat) c v, l[j]? = some c → u.cells[j]? = some v → RV L w A c v) :
    off + u.cells.size ≤ C.size ∧ CR L w A cs' (C.toList.take off ++ u.cells.toList ++ C.toList.drop (off + u.cells.toList.length)).toArray := by
  obtain ⟨e1, e2⟩ := setL_spec _ _ _ _ hset
  have hfit : off + u.cells.toList.length ≤ C.toList.length := by have := h.1; simp; omega
  refine ⟨by simpa using hfit, ?_, fun j c v hc hv => ?_⟩
  · rw [e1, spl_len e2]
    simp only [List.size_toArray]
    rw [spl_len hfit]
    simpa using h.1
  · rw [e1, spl_get' e2] at hc
    simp only [List.getElem?_toArray] at hv
    rw [spl_get' hfit] at hv
    have e3 : u.cells.toList.length = l.length := by simp [hl]
    rw [e3] at hv
    split at hc
    · rename_i hin
      rw [if_pos hin] at hv
      exact hr _ c v hc (by simpa using hv)
    · rename_i hin
      rw [if_neg hin] at hv
      exact h.2 j c v hc (by simpa using hv)

theorem part_cells (hI : Inv w0 A0 N L A T B a w) {t : TypeId} {x : Operand} {l : List AV} (h : partC (resz S t (evA T x)) = some l) :
    l.length = (a.eval x).cells.size ∧ ∀ (j : Nat) c v, l[j]? = some c → (a.eval x).cells[j]? = some v → RV L w A c v := by
  have hr := resz_rv (S := S) (t := t) (ev_rv hI x)
  obtain ⟨rfl, hs⟩ := partC_cells h
  obtain ⟨k1, _, k3⟩ := hr.cells hs (partC_notTup h hr)
  exact ⟨k1, k3⟩

theorem fillL_sound (hI : Inv w0 A0 N L A T B a w) {t : TypeId} {place : Nat → Option (Nat × Nat)} (hplace : ∀ i off ft n, fieldOf S t i = some (off, ft, n) → place i = some (off, n)) :
    ∀ (ps : List (Nat × Operand)) (cs cs' : List AV) (C : Array Value), fillL S t (evA T) cs ps = some cs' → CR L w A cs C →
    ∃ C', Instr.fill place C (ps.map fun p => (p.1, a.eval p.2)) = some C' ∧ CR L w A cs' C'
  | [], cs, cs', C, h, hc => by simp only [fillL] at h; cases h; exact ⟨C, rfl, hc⟩
  | (i, x) :: ps, cs, cs', C, h, hc => by
    simp only [fillL] at h
    split at h
    · rename_i off ft n hf
      split at h
      · rename_i l hl
        split at h
        · rename_i hn
          have hn := Nat.eq_of_beq_eq_true hn
          split at h
          · rename_i cs1 hset
            obtain ⟨k1, k2⟩ := part_cells hI hl
            obtain ⟨k3, k4⟩ := hc.splice hset k1 k2
            obtain ⟨C', g1, g2⟩ := fillL_sound hI hplace ps cs1 cs' _ h k4
            refine ⟨C', ?_, g2⟩
            rw [List.map_cons, fill_one (by rw [hplace _ _ _ _ hf, ← hn, k1]) k3]
            exact g1
          · cases h
        · cases h
      · cases h
    · cases h
theorem fillArr_sound (hI : Inv w0 A0 N L A T B a w) {e : TypeId} : ∀ (ps : List (Nat × Operand)) (cs cs' : List AV) (C : Array Value), fillArr S e (evA T) cs ps = some cs' → CR L w A cs C →
    ∃ C', Instr.fill (fun i => some (i * 1, 1)) C (ps.map fun p => (p.1, a.eval p.2)) = some C' ∧ CR L w A cs' C'
  | [], cs, cs', C, h, hc => by simp only [fillArr] at h; cases h; exact ⟨C, rfl, hc⟩
  | (i, x) :: ps, cs, cs', C, h, hc => by
    simp only [fillArr] at h
    split at h
    · rename_i v hl
      split at h
      · rename_i cs1 hset
        obtain ⟨k1, k2⟩ := part_cells hI hl
        obtain ⟨k3, k4⟩ := hc.splice hset k1 k2
        obtain ⟨C', g1, g2⟩ := fillArr_sound hI ps cs1 cs' _ h k4
        refine ⟨C', ?_, g2⟩
        rw [List.map_cons, fill_one (off := i) (by rw [← k1]; simp) k3]
        exact g1
      · cases h
    · cases h

theorem places_some : ∀ (fs : List Field), (∀ f ∈ fs, (P.info? f.type).isSome = true) → ∃ places, fs.mapM (fun f => (P.info? f.type).map fun i => (f.offset, i.size)) = some places ∧
    ∀ (j : Nat) f i, fs[j]? = some f → P.info? f.type = some i → places[j]? = some (f.offset, i.size)
  | [], _ => ⟨[], rfl, by simp⟩
  | f :: fs, h => by
    obtain ⟨places, h1, h2⟩ := places_some fs fun f hf => h f (List.mem_cons_of_mem _ hf)
    obtain ⟨i, hi⟩ := Option.isSome_iff_exists.1 (h f List.mem_cons_self)
    refine ⟨(f.offset, i.size) :: places, by simp [List.mapM_cons, hi, h1], fun j f' i' hf hi' => ?_⟩
    cases j with
    | zero => simp only [List.getElem?_cons_zero, Option.some.injEq] at hf ⊢; subst hf; rw [hi] at hi'; cases hi'; rfl
    | succ j => simp only [List.getElem?_cons_succ] at hf ⊢; exact h2 j f' i' hf hi'

theorem zero_CR {t : TypeId} {ti : TI} (ht : TyOk P t ti) : ∃ i z, P.info? t = some i ∧ i.zero = some z ∧ i.size = ti.size ∧ CR L w A ti.zero z.cells ∧ z.cells.size = ti.size := by
  obtain ⟨i, z, hi, hi1, _, hz, hm⟩ := ht.info
  obtain ⟨h1, h2⟩ := zmatchL_rv (L := L) (w := w) (A := A) hm
  refine ⟨i, z, hi, hz, hi1, ⟨by simpa using h1, fun j c v hc hv => h2 j c v hc (by simpa using hv)⟩, ?_⟩
  rw [← ht.zlen]
  simpa using h1.symm

theorem s_build (hS : TysOk P S) {dst type pos after guard} (t : TypeId) (ps : Array (Nat × Operand)) : Sound P S ⟨dst, .build t ps, type, pos, after, guard⟩ := by
  refine ⟨?_⟩
  intro w0 A0 N L A T B a w v ups T1 B1 T2 K Q oc dr hoc hI ho hu hp hK
  have hps : (ps.map fun (i, x) => (i, a.eval x)).toList = ps.toList.map fun p => (p.1, a.eval p.2) := by simp
  simp only [eff] at ho
  refine outV hI ho hu hp hK ?_
  split at ho
  · rename_i ti ht
    have ht := hS _ _ ht
    obtain ⟨it, z, hi, hz, _, hcr, _⟩ := zero_CR (L := L) (w := w) (A := A) ht
    have fin' : ∀ cs C, CR L w A cs C → oneL cs = true → P.built t (ps.toList.map fun p => (p.1, a.eval p.2)) = some C → v = mkA cs → ups = [] →
        ups = [] ∧ ∃ u, (execOp a.eval ⟨dst, .build t ps, type, pos, after, guard⟩).run P w = .ok (.value u) w ∧ RV L w A v u := by
      rintro cs C hc h1 hb rfl rfl
      refine ⟨rfl, .agg C, ?_, mkA_rv hc.1 h1 hc.2⟩
      have := run_build (P := P) w t (ps.map fun (i, x) => (i, a.eval x)) C (by rw [hps]; exact hb)
      simp only [execOp, Sem.run_bind]
      rw [this]; rfl
    split at ho
    · rename_i fs hund
      split at ho
      · rename_i cs hfill
        split at ho
        · rename_i h1
          cases ho
          obtain ⟨places, p1, p2⟩ := places_some (P := P) fs.toList fun f hf => ((ht.held fs hund).2 f hf).2
          obtain ⟨C', g1, g2⟩ := fillL_sound hI (place := (places.toArray[·]?)) (fun i off ft n hf => by
            obtain ⟨fs', fd, k1, k2, k3, k4, k5, k6, tf, k7, k8⟩ := fieldOf_spec hS hf
            rw [ht.und, hund] at k1
            cases k1
            obtain ⟨ii, zz, q1, q2, _⟩ := (hS _ _ k7).info
            have := p2 i fd ii (by simpa using k2) (by rw [k4]; exact q1)
            simp only [List.getElem?_toArray]
            rw [this, k3, q2, k8]) ps.toList _ _ _ hfill hcr
          refine fin' cs C' g2 h1 ?_ rfl rfl
          simp only [Program.built, hi, ht.und, hund, hz, p1]
          exact g1
        · cases ho
      · cases ho
    · rename_i n e hund
      split at ho
      · rename_i te hte
        have hte := hS _ _ hte
        split at ho
        · rename_i cs hs1 hfill
          have hs1 := Nat.eq_of_beq_eq_true hs1
          split at ho
          · rename_i h1
            cases ho
            obtain ⟨ie, ze, q1, q2, _⟩ := hte.info
            obtain ⟨C', g1, g2⟩ := fillArr_sound hI ps.toList _ _ _ hfill hcr
            refine fin' cs C' g2 h1 ?_ rfl rfl
            simp only [Program.built, hi, ht.und, hund, hz, q1, q2, hs1]
            exact g1
          · cases ho
        · cases ho
      · cases ho
    · cases ho
  · cases ho
end
end Go.Vm
