/- Texts VmO VmOn VmOc, joined. -/
import Derived.Test.YtahnaobdihhppaaMgE
import Derived.Maps.RangeRun
section
/- Each operation, eleventh part: slice literals and make. -/
namespace Go.Vm
open Go.RowKit (Below)
section
variable {P : Program} {S : Tys} {oc : Option Orc}
variable {w0 : Ent} {A0 : Sta} {N : Nat} {L : Lay} {A : Sta} {T : Nat → AV} {B : Nat → Option Bx} {a : Act} {w : World}
theorem frzZL_spec : ∀ {xs : List AV} {ds : List D}, frzZL xs = some ds → ∀ {L : Lay} {w : World} {A : Sta}, ds.length = xs.length ∧
    ∀ (j : Nat) d u x, ds[j]? = some d → xs[j]? = some x → RV L w A x u → Rep w A d u
  | [], ds, h, L, w, A => by simp only [frzZL] at h; cases h; exact ⟨rfl, by simp⟩
  | c :: cs, ds, h, L, w, A => by
    simp only [frzZL] at h
    split at h
    · rename_i ds' hds
      obtain ⟨g1, g2⟩ := frzZL_spec hds (L := L) (w := w) (A := A)
      split at h
      · cases h
        refine ⟨by simp [g1], fun j d u x hd hx hr => ?_⟩
        cases j with
        | zero => simp only [List.getElem?_cons_zero, Option.some.injEq] at hd hx; subst hd; subst hx; exact rv_d hr
        | succ j => simp only [List.getElem?_cons_succ] at hd hx; exact g2 j d u x hd hx hr
      · cases h
        refine ⟨by simp [g1], fun j d u x hd hx hr => ?_⟩
        cases j with
        | zero => simp only [List.getElem?_cons_zero, Option.some.injEq] at hd hx; subst hd; subst hx; rw [rv_nil hr]; exact .slnil _ _ _
        | succ j => simp only [List.getElem?_cons_succ] at hd hx; exact g2 j d u x hd hx hr
      · cases h
    · cases h

/-- The zero element of a type, as data. -/
theorem zeroD {t : TypeId} {ti : TI} (ht : TyOk P t ti) {z : D} (hz : zeroFl ti = some z) {w : World} {A : Sta} :
    z.flat = true ∧ ∃ i v, P.info? t = some i ∧ i.zero = some v ∧ i.size = ti.size ∧ v.cells.size = ti.size ∧ z.cells.length = ti.size ∧ ∀ (j : Nat) c u, z.cells[j]? = some c → v.cells[j]? = some u → Rep w A c u := by
  obtain ⟨i, v, hi, hv, hs, hcr, hcs⟩ := zero_CR (L := ⟨fun _ => 0, fun _ => undef, fun _ _ _ => undef, fun _ => 0⟩) (w := w) (A := A) ht
  unfold zeroFl at hz
  split at hz
  · cases hz
  · split at hz
    · rename_i ds hds
      obtain ⟨g1, g2⟩ := frzZL_spec hds (L := ⟨fun _ => 0, fun _ => undef, fun _ _ _ => undef, fun _ => 0⟩) (w := w) (A := A)
      have hall : ∀ (j : Nat) c u, ds[j]? = some c → v.cells[j]? = some u → Rep w A c u := by
        intro j c u hc hu
        have hlt := lt_of_get hc
        rw [g1] at hlt
        have hx : ti.zero[j]? = some ti.zero[j] := List.getElem?_eq_getElem hlt
        exact g2 j c u _ hc hx (hcr.2 j _ u hx hu)
      have hlen : ds.length = ti.size := by rw [g1, ht.zlen]
      split at hz
      · rename_i z' hel
        split at hz
        · rename_i hfl
          cases hz
          refine ⟨hfl, i, v, hi, hv, hs, hcs, ?_⟩
          unfold elemD at hel
          split at hel
          · cases hel
            exact ⟨hlen, hall⟩
          · split at hel
            · rename_i x
              split at hel
              · rename_i h1
                cases hel
                rw [(one_cells h1).1]
                exact ⟨hlen, hall⟩
              · cases hel
            · cases hel
        · cases hz
      · cases hz
    · cases hz

/-- A new row: where its elements stand. -/
def ER (w : World) (A : Sta) (sz : Nat) (es : List D) (C : Array Value) : Prop :=
  C.size = es.length * sz ∧ (∀ (i : Nat) e, es[i]? = some e → e.cells.length = sz ∧ e.flat = true) ∧
    ∀ (i : Nat) e (j : Nat) c v, es[i]? = some e → e.cells[j]? = some c → C[i * sz + j]? = some v → Rep w A c v

/-- A box for a new row. -/
theorem Inv.newRow (h : Inv w0 A0 N L A T B a w) {t et sz : Nat} {es : List D} {C : Array Value} (hn : B t = none) (hlt : pinned t = false) (hE : ER w A sz es C) (hmax : es.length ≤ maxLen) :
    ∃ L', L'.hd t = .slice (some ⟨w.heap.size, 0, none⟩) es.length es.length ∧ Inv w0 A0 N L' A T (upd B t (some (.row et sz es false))) a (w.alloc (.cells C et)) := by
  refine ⟨L.at t w.heap.size (.slice (some ⟨w.heap.size, 0, none⟩) es.length es.length), Lay.at_hd,
    h.adopt (L' := L.at t w.heap.size (.slice (some ⟨w.heap.size, 0, none⟩) es.length es.length)) (fun g => g = w.heap.size) hn hlt rfl .rfl' rfl (by simp) (fun k hk _ => heap_old w _ hk) (fun g o hg ho => by subst hg; exact absurd (h.Aok _ o ho) (by omega)) (fun g hg => by subst hg; exact ⟨.inl h.below.size, by simp⟩)
      (fun g b' x' hg hx' ho => by subst hg; have := (h.lo b' x' _ hx' ho).2; omega) (fun b' hb' => Lay.at_eq hb') (fun _ _ => rfl) ?_ (fun g hg => ?_) (fun b' hb' => (by cases hb'))⟩
  · refine ⟨C.toList, ⟨by simpa using hE.1, .inr ⟨w.heap.size, es.length, C, Lay.at_hd, h.below.b0, heap_new w _, Nat.le_refl _, hmax, hE.1, ?_⟩⟩, hE.2.1, fun i e j c v he hc hv => ?_, fun g hg => ?_, fun _ o ho => ?_⟩
    · exact List.take_of_length_le (by rw [Array.length_toList, hE.1]; exact Nat.le_refl _)
    · refine (hE.2.2 i e j c v he hc (by simpa using hv)).frame (fun _ _ h => h) fun g o hg => ?_
      exact World.cell?_of_block (w := w) (heap_old w _ (h.Aok g o hg))
    · rw [Lay.at_hd] at hg
      simp only [Value.ownBlock, Option.some.injEq] at hg
      rw [← hg]
      exact Lay.at_ι.symm
    · rw [Lay.at_ι] at ho
      exact absurd (h.Aok _ o ho) (by omega)
  · have hg' : ((L.at t w.heap.size (.slice (some ⟨w.heap.size, 0, none⟩) es.length es.length)).hd t).ownBlock = some g := hg
    rw [Lay.at_hd] at hg'
    simp only [Value.ownBlock, Option.some.injEq] at hg'
    exact hg'.symm

theorem upsNew {dst : Option Nat} {t : Nat} {x : Bx} {T1 : Nat → AV} {B1 : Nat → Option Bx} (hd : dst = some t) (h : UpsR dst [(t, some x)] T B T1 B1) : T1 = T ∧ (B t = none ∧ pinned t = false) ∧ B1 = upd B t (some x) := by
  obtain ⟨h1, h2, h3, h4, _⟩ := upsOneNew hd h
  exact ⟨h1, ⟨h3, h4⟩, h2⟩

/-- A new matrix: a block of headers. -/
theorem Inv.newMat (h : Inv w0 A0 N L A T B a w) {t et ie n : Nat} {rows : List (Option (List D))} {C : Array Value} (sb : Nat → Value) (hn : B t = none) (hlt : pinned t = false) (hlen : rows.length = n) (hC : C.size = n) (hmax : n ≤ maxLen)
    (hR : ∀ (i : Nat) es, rows[i]? = some (some es) → C[i]? = some (sb i) ∧ inRow w0.B0 w A ie (sb i) es)
    (hD : ∀ (i j : Nat) es es' k, rows[i]? = some (some es) → rows[j]? = some (some es') → (sb i).ownBlock = some k → (sb j).ownBlock = some k → i = j)
    (hF : ∀ (i : Nat) es k, rows[i]? = some (some es) → (sb i).ownBlock = some k → (w0.own k ∧ k < w.heap.size) ∧ (∀ b' x', B b' = some x' → ¬ own L b' x' k) ∧ ∀ o, ¬ A k o) :
    ∃ L', L'.hd t = .slice (some ⟨w.heap.size, 0, none⟩) n n ∧ Inv w0 A0 N L' A T (upd B t (some (.mat et ie 0 rows))) a (w.alloc (.cells C et)) := by
  subst hlen
  refine h.matHeir (g := w.heap.size) (xs := C.toList) sb hn hlt ⟨by simp [hC], .inr ⟨w.heap.size, rows.length, C, rfl, h.below.b0, heap_new w _, Nat.le_refl _, hmax, by omega, List.take_of_length_le (by simp [hC])⟩⟩ (fun i es he => ?_) hD
    (fun i es k he hk => ⟨fun e => by have := (hF i es k he hk).1.2; omega, hF i es k he hk⟩) (fun k hk => ?_) rfl .rfl' rfl (by simp) (fun k hk _ => heap_old w _ hk) (fun _ o ho => absurd (h.Aok _ o ho) (by omega))
    (fun _ b' x' hx' ho => by have := (h.lo b' x' _ hx' ho).2; omega)
  · have := hR i es he
    exact ⟨by simpa using this.1, this.2⟩
  · simp only [Value.ownBlock, Option.some.injEq] at hk
    exact ⟨hk.symm, .inl h.below.size⟩
theorem innerOf_spec {e : TypeId} {te : TI} (hte : TyOk P e te) {ie : Nat} (h : innerOf S te = some ie) : te.size = 1 ∧ ∃ i vz, P.info? e = some i ∧ i.zero = some vz ∧ i.size = 1 ∧ i.bytes = te.bytes ∧ vz.cells = #[.slice none 0 0] := by
  unfold innerOf at h
  split at h
  · split at h
    · rename_i hs hz
      obtain ⟨i, vz, hi, h1, h2, hzz, hm⟩ := hte.info
      refine ⟨hs, i, vz, hi, hzz, h1.trans hs, h2, ?_⟩
      rw [hz] at hm
      cases hc : vz.cells.toList with
      | nil => rw [hc] at hm; cases hm
      | cons c r =>
        rw [hc] at hm
        simp only [zmatchL, Bool.and_eq_true] at hm
        cases r with
        | cons => cases hm.2
        | nil =>
          have : c = .slice none 0 0 := by
            have hm := hm.1
            cases c with
            | slice a n m =>
              cases a with
              | none =>
                cases n with
                | zero => cases m with
                  | zero => rfl
                  | succ => cases hm
                | succ => cases hm
              | some => cases hm
            | _ => cases hm
          subst this
          exact Array.toList_inj.1 (by simpa using hc)
    · cases h
  · cases h

theorem ER.rep {sz n : Nat} {z : D} {Z C : Array Value} (hz : z.flat = true) (hl : z.cells.length = sz) (hr : ∀ (j : Nat) c u, z.cells[j]? = some c → Z[j]? = some u → Rep w A c u)
    (hC : C.size = n * sz) (hCj : ∀ k, k < n * sz → C[k]? = Z[k % sz]?) : ER w A sz (List.replicate n z) C := by
  have hrep : ∀ (i : Nat) e, (List.replicate n z)[i]? = some e → i < n ∧ e = z := by
    intro i e he
    have hlt := lt_of_get he
    rw [List.length_replicate] at hlt
    rw [List.getElem?_replicate, if_pos hlt] at he
    cases he
    exact ⟨hlt, rfl⟩
  refine ⟨by simpa using hC, fun i e he => ?_, fun i e j c v he hc hv => ?_⟩
  · obtain ⟨_, rfl⟩ := hrep i e he; exact ⟨hl, hz⟩
  · obtain ⟨hi, rfl⟩ := hrep i e he
    have hj : j < sz := by rw [← hl]; exact lt_of_get hc
    have : (i + 1) * sz ≤ n * sz := Nat.mul_le_mul_right _ hi
    rw [Nat.add_mul] at this
    rw [hCj _ (by omega)] at hv
    have hm : (i * sz + j) % sz = j := by rw [Nat.mul_comm, Nat.mul_add_mod, Nat.mod_eq_of_lt hj]
    rw [hm] at hv
    exact hr j c v hc hv

theorem madeCells_get {z : Array Value} {n k : Nat} (hz : 0 < z.size) (hk : k < n) : (madeCells z n)[k]? = z[k % z.size]? := by
  have hlt : k % z.size < z.size := Nat.mod_lt _ hz
  simp [madeCells, hk, hlt]

theorem s_makeSlice (hS : TysOk P S) {dst type pos after guard} (t : TypeId) (n c : Operand) : Sound P S ⟨dst, .makeSlice t n c, type, pos, after, guard⟩ := by
  refine ⟨?_⟩
  intro w0 A0 N L A T B a w v ups T1 B1 T2 K Q oc dr hoc hI ho hu hp hK
  have hn := ev_rv hI n
  have hc := ev_rv hI c
  simp only [eff] at ho
  split at ho
  · rename_i s ti nn cc ht e1 e2
    rw [e1] at hn
    rw [e2] at hc
    have hn := rv_int hn
    have hc := rv_int hc
    have ht := hS _ _ ht
    split at ho
    · rename_i e hund
      split at ho
      · rename_i te hte
        have hte := hS _ _ hte
        split at ho
        · cases ho
        · rename_i sz hsz
          have hsz : te.size = sz + 1 := hsz
          have htu : P.underlying t = some (.slice e) := by rw [ht.und, hund]
          split at ho
          · rename_i ie hin
            cases ho with
            | need hb ho =>
              cases ho
              obtain ⟨rfl, h0, h1, h2⟩ := hb
              obtain ⟨k1, i, vz, g1, g2, g3, q3, g4⟩ := innerOf_spec hte hin
              have hrun := run_make (P := P) w t e i vz htu g1 g2 .i64 .i64 nn nn h0 (Int.le_refl _) (by rw [q3, Int.mul_comm]; omega) (by omega)
              rw [g3] at hrun
              obtain ⟨rfl, ⟨hnone, hlt⟩, rfl⟩ := upsNew rfl hu
              have hrow : ∀ (i : Nat) es, (List.replicate nn.toNat (some ([] : List D)))[i]? = some (some es) → i < nn.toNat ∧ es = [] := by
                intro i es he
                have hlt := lt_of_get he
                rw [List.length_replicate] at hlt
                rw [List.getElem?_replicate, if_pos hlt] at he
                cases he
                exact ⟨hlt, rfl⟩
              obtain ⟨L', l1, l2⟩ := hI.newMat (et := e) (ie := ie) (C := madeCells vz.cells (nn.toNat * 1)) (n := nn.toNat) (fun _ => .slice none 0 0) hnone hlt (List.length_replicate ..) (by rw [size_madeCells, Nat.mul_one]) (by simp only [maxLen]; omega)
                (fun i es he => by
                  obtain ⟨hi, rfl⟩ := hrow i es he
                  refine ⟨?_, rfl, [], ⟨by simp, .inl ⟨rfl, rfl⟩⟩, by simp, by simp⟩
                  rw [madeCells_get (by rw [g4]; simp) (by omega), g4]
                  simp [Nat.mod_one])
                (fun i j es es' k _ _ h => by simp [Value.ownBlock] at h) (fun i es k _ h => by simp [Value.ownBlock] at h)
              refine zarr (by simp only [execOp, Sem.run_bind, hn, hc, hrun, Result.andThen_ok]; rfl) (hK _ _ _ _ (fin l2 ?_ hp))
              rw [← l1]
              exact .own _ _ _ (by rw [l1]; rfl)
          · split at ho
            · rename_i z hz
              cases ho with
              | need hb ho =>
                cases ho
                obtain ⟨rfl, h0, h1, h2⟩ := hb
                obtain ⟨hflat, i, vz, g1, g2, g3, g4, g5, g6⟩ := zeroD hte hz (w := w) (A := A)
                obtain ⟨i', _, q1, _, q3, _⟩ := hte.info
                rw [g1] at q1; cases q1
                rw [hsz] at g3 g4 g5
                have hrun := run_make (P := P) w t e i vz htu g1 g2 .i64 .i64 nn nn h0 (Int.le_refl _) (by rw [q3, Int.mul_comm]; omega) (by omega)
                rw [g3] at hrun
                obtain ⟨rfl, ⟨hnone, hlt⟩, rfl⟩ := upsNew rfl hu
                have hE : ER w A (sz + 1) (List.replicate nn.toNat z) (madeCells vz.cells (nn.toNat * (sz + 1))) := by
                  refine ER.rep hflat g5 g6 (size_madeCells _ _) fun k hk => ?_
                  rw [madeCells_get (by omega) hk, g4]
                obtain ⟨L', l1, l2⟩ := hI.newRow (et := e) hnone hlt hE (by simp only [List.length_replicate, maxLen]; omega)
                rw [List.length_replicate] at l1
                refine zarr (by simp only [execOp, Sem.run_bind, hn, hc, hrun, Result.andThen_ok]; rfl) (hK _ _ _ _ (fin l2 ?_ hp))
                rw [← l1]
                exact .own _ _ _ (by rw [l1]; rfl)
            · cases ho
      · cases ho
    · cases ho
  · cases ho

theorem fillE_out (hI : Inv w0 A0 N L A T B a w) {e : TypeId} {size : Nat} : ∀ (ps : List (Nat × Operand)) (es : List D) (us0 : List (Nat × Option Bx)) {k : List D → List (Nat × Option Bx) → Res} {v : AV} {ups},
    Out P oc (fillE S B e size (evA T) es ps us0 k) v ups → Frz B us0 →
    ∃ es' us, Out P oc (k es' us) v ups ∧ Frz B us ∧ ∀ A', (∀ g o, A g o → A' g o) → FrzOk L w us A' → FrzOk L w us0 A' ∧ ∀ C, ER w A' size es C →
      ∃ C', Instr.fill (fun i => some (i * size, size)) C (ps.map fun p => (p.1, a.eval p.2)) = some C' ∧ ER w A' size es' C' ∧ es'.length = es.length
  | [], es, us0, k, v, ups, ho, hf => by
    simp only [fillE] at ho
    exact ⟨es, us0, ho, hf, fun A' _ hok => ⟨hok, fun C hE => ⟨C, rfl, hE, rfl⟩⟩⟩
  | (i, x) :: ps, es, us0, k, v, ups, ho, hf => by
    simp only [fillE] at ho
    obtain ⟨d, f1, ho, h1, h2⟩ := frzAK_out hI (resz_rv (S := S) (t := e) (ev_rv hI x)) ho
    have key : d.cells.length = size → d.flat = true → Out P oc (match setL es i [d] with
        | some es' => fillE S B e size (evA T) es' ps (us0 ++ f1) k
        | none => .bad) v ups → ∃ es' us, Out P oc (k es' us) v ups ∧ Frz B us ∧ ∀ A', (∀ g o, A g o → A' g o) → FrzOk L w us A' → FrzOk L w us0 A' ∧ ∀ C, ER w A' size es C →
      ∃ C', Instr.fill (fun i => some (i * size, size)) C (((i, x) :: ps).map fun p => (p.1, a.eval p.2)) = some C' ∧ ER w A' size es' C' ∧ es'.length = es.length := by
      intro hlen hflat ho
      split at ho
      · rename_i es1 hset
        obtain ⟨es', us, ho, g1, g2⟩ := fillE_out hI ps es1 (us0 ++ f1) ho (hf.app h1)
        refine ⟨es', us, ho, g1, fun A' hA hok => ?_⟩
        obtain ⟨k1, k2⟩ := g2 A' hA hok
        refine ⟨k1.left, fun C hE => ?_⟩
        obtain ⟨e1, e2⟩ := setL_spec _ _ _ _ hset
        simp only [List.length_singleton] at e1 e2
        have hrep := h2 A' hA k1.right
        have hcells := hrep.cells hflat
        rw [hlen] at hcells
        have hi : (i + 1) * size ≤ es.length * size := Nat.mul_le_mul_right _ (by omega)
        rw [Nat.add_mul, Nat.one_mul] at hi
        have hfit : i * size + (a.eval x).cells.size ≤ C.size := by rw [hE.1, ← hcells.1]; exact hi
        have hfitL : i * size + (a.eval x).cells.toList.length ≤ C.toList.length := by simpa using hfit
        have e3 : (a.eval x).cells.toList.length = size := by simpa using hcells.1.symm
        have hE1 : ER w A' size es1 (C.toList.take (i * size) ++ (a.eval x).cells.toList ++ C.toList.drop (i * size + (a.eval x).cells.toList.length)).toArray := by
          have hes1 : ∀ (k : Nat) y, es1[k]? = some y → (k = i ∧ y = d) ∨ (k ≠ i ∧ es[k]? = some y) := by
            intro k y hy
            rw [e1, show i + 1 = i + [d].length from rfl, spl_get' (by simpa using e2)] at hy
            split at hy
            · rename_i hin
              simp only [List.length_singleton] at hin
              have : k = i := by omega
              subst this
              simp only [Nat.sub_self, List.getElem?_cons_zero, Option.some.injEq] at hy
              exact .inl ⟨rfl, hy.symm⟩
            · rename_i hin
              simp only [List.length_singleton] at hin
              exact .inr ⟨by omega, hy⟩
          refine ⟨?_, fun k y hy => ?_, fun k y j c u hy hc hu => ?_⟩
          · simp only [List.size_toArray]
            rw [spl_len hfitL]
            have : es1.length = es.length := by rw [e1, show i + 1 = i + [d].length from rfl, spl_len (by simpa using e2)]
            rw [this]
            simpa using hE.1
          · rcases hes1 k y hy with ⟨_, rfl⟩ | ⟨_, h⟩
            · exact ⟨hlen, hflat⟩
            · exact hE.2.1 k y h
          · simp only [List.getElem?_toArray] at hu
            rw [spl_get' hfitL, e3] at hu
            rcases hes1 k y hy with ⟨rfl, rfl⟩ | ⟨hne, h⟩
            · have hj : j < size := by rw [← hlen]; exact lt_of_get hc
              rw [if_pos (by omega)] at hu
              refine hcells.2.2 j c u hc ?_
              have e4 : k * size + j - k * size = j := by omega
              rw [e4] at hu
              simpa using hu
            · have hj : j < size := by rw [← (hE.2.1 k y h).1]; exact lt_of_get hc
              rw [if_neg] at hu
              · exact hE.2.2 k y j c u h hc (by simpa using hu)
              · intro hin
                rcases Nat.lt_or_ge k i with h9 | h9
                · have : (k + 1) * size ≤ i * size := Nat.mul_le_mul_right _ h9
                  rw [Nat.add_mul] at this; omega
                · have : (i + 1) * size ≤ k * size := Nat.mul_le_mul_right _ (by omega)
                  rw [Nat.add_mul] at this; omega
        obtain ⟨C', q1, q2, q3⟩ := k2 _ hE1
        refine ⟨C', ?_, q2, ?_⟩
        · rw [List.map_cons, fill_one (off := i * size) (by rw [hcells.1]) hfit]
          exact q1
        · rw [q3, e1, show i + 1 = i + [d].length from rfl, spl_len (by simpa using e2)]
      · cases ho
    split at ho
    · split at ho
      · rename_i hlen hflat
        exact key (Nat.eq_of_beq_eq_true hlen) hflat ho
      · cases ho
    · cases ho with
      | need hd ho => exact key hd.1 hd.2 ho

theorem fillM_spec {dr : Bool} {ie n : Nat} {ρ : Operand → AV} {ps : List (Nat × Operand)} {es : List D} {us : List (Nat × Option Bx)} (h : fillM B dr ie ρ n ps = some (es, us)) :
    n = 1 ∧ ∃ x, ps = [(0, x)] ∧ ((∃ c s m, ρ x = .own c s m ∧ B c = some (.row ie 1 es false) ∧ us = [kil dr c]) ∨ ∃ k, ρ x = .nil k ∧ es = [] ∧ us = []) := by
  unfold fillM at h
  split at h
  · rename_i x
    refine ⟨rfl, x, rfl, ?_⟩
    split at h
    · split at h
      · rename_i hb
        split at h
        · rename_i e1
          have e1 := Nat.eq_of_beq_eq_true e1
          subst e1
          simp only [Option.some.injEq, Prod.mk.injEq] at h
          obtain ⟨rfl, rfl⟩ := h
          exact .inl ⟨_, _, _, by assumption, hb, rfl⟩
        · cases h
      · cases h
    · simp only [Option.some.injEq, Prod.mk.injEq] at h
      obtain ⟨rfl, rfl⟩ := h
      exact .inr ⟨_, by assumption, rfl, rfl⟩
    · cases h
  · cases h

theorem s_buildSlice (hS : TysOk P S) {dst type pos after guard} (t : TypeId) (n : Nat) (ps : Array (Nat × Operand)) : Sound P S ⟨dst, .buildSlice t n ps, type, pos, after, guard⟩ := by
  refine ⟨?_⟩
  intro w0 A0 N L A T B a w v ups T1 B1 T2 K Q oc dr hoc hI ho hu hp hK
  have hps : (ps.map fun (i, x) => (i, a.eval x)).toList = ps.toList.map fun p => (p.1, a.eval p.2) := by simp
  simp only [eff] at ho
  split at ho
  · rename_i s ti ht
    have ht := hS _ _ ht
    split at ho
    · rename_i e hund
      have htu : P.underlying t = some (.slice e) := by rw [ht.und, hund]
      split at ho
      · rename_i te hte
        have hte := hS _ _ hte
        split at ho
        · rename_i sz hsmall hsz
          have hsz : te.size = sz + 1 := hsz
          have hsmall : n * te.size ≤ 16777216 := Nat.le_of_ble_eq_true hsmall
          have rowCase : ∀ {v : AV} {ups : List (Nat × Option Bx)}, Out P oc (match zeroFl te with
              | some z => fillE S B e (sz + 1) (evA T) (List.replicate n z) ps.toList [] fun es us => .ok (.own s (sz + 1) n) (us ++ [(s, some (.row e (sz + 1) es false))])
              | none => .bad) v ups → UpsR (some s) ups T B T1 B1 → PutR N (some s) v T1 B1 T2 → Oper.wp P ⟨some s, .buildSlice t n ps, type, pos, after, guard⟩ a w K Q := by
            intro v ups ho hu hp
            split at ho
            · rename_i z hz
              obtain ⟨es, us, ho, g1, g2⟩ := fillE_out hI ps.toList _ [] ho .nil
              cases ho
              obtain ⟨A', B2, k1, k2, k3, k4, k5, k6⟩ := frz_ups g1 idRows hI hu
              obtain ⟨rfl, ⟨hnone, hlt⟩, rfl⟩ := upsNew rfl k3
              obtain ⟨_, g2⟩ := g2 A' k1 k4
              obtain ⟨hflat, i, vz, q1, q2, q3, q4, q5, q6⟩ := zeroD hte hz (w := w) (A := A')
              rw [hsz] at q3 q4 q5
              have hE : ER w A' (sz + 1) (List.replicate n z) ((Array.range (n * (sz + 1))).map (vz.cells[· % vz.cells.size]!)) := by
                refine ER.rep hflat q5 q6 (by simp) fun k hk => ?_
                have := madeCells_get (z := vz.cells) (by omega) hk
                rw [q4] at this
                rw [q4]
                rw [← this]
                simp [madeCells, q4]
              obtain ⟨C, m1, m2, m3⟩ := g2 _ hE
              rw [List.length_replicate] at m3
              have hrun : (Instr.buildSlice t n (ps.map fun (i, x) => (i, a.eval x))).run P w = .ok (.slice (some ⟨w.heap.size, 0, none⟩) n n) (w.alloc (.cells C e)) := by
                rw [hsz] at hsmall
                rcases Nat.eq_zero_or_pos n with h0 | hpos
                · subst h0
                  have hx : ((Array.range (0 * (sz + 1))).map (vz.cells[· % vz.cells.size]!)) = #[] := Array.eq_empty_of_size_eq_zero (by simp)
                  rw [← hps, hx] at m1
                  have hy : ∀ f : Nat → Value, ((Array.range 0).map f) = #[] := fun f => Array.eq_empty_of_size_eq_zero (by simp)
                  rw [hps] at m1
                  simp [Instr.buildSlice, run_underlying htu, sizeOf, typeInfo, q1, q3, newRow, hy, m1]
                · exact run_buildSlice (P := P) w t e n _ C i vz htu q1 q2 (by rw [q3]; omega) (by rw [q3]; have : n * (sz + 1) ≥ 1 * 1 := Nat.mul_le_mul hpos (by omega); omega) (by rw [q3, hps]; exact m1)
              obtain ⟨L', l1, l2⟩ := k2.newRow (et := e) hnone hlt m2 (by
                have : n * 1 ≤ n * te.size := Nat.mul_le_mul_left _ (by omega)
                simp only [maxLen]; omega)
              rw [m3] at l1
              refine zarr (by simp only [execOp, Sem.run_bind]; rw [hrun]; rfl) (hK _ _ _ _ (fin l2 ?_ hp))
              rw [← l1]
              exact .own _ _ _ (by rw [l1]; rfl)
            · cases ho
          split at ho
          · rename_i ie hin
            split at ho
            · rename_i es us hfm
              cases ho
              obtain ⟨k1, i, vz, g1, g2, g3, q3, g4⟩ := innerOf_spec hte hin
              obtain ⟨rfl, x, hpx, hcase⟩ := fillM_spec hfm
              have hrun : ∀ u : Value, a.eval x = u → u.oneCell' = true → (Instr.buildSlice t 1 (ps.map fun (i, x) => (i, a.eval x))).run P w = .ok (.slice (some ⟨w.heap.size, 0, none⟩) 1 1) (w.alloc (.cells #[u] e)) := by
                intro u hu hone
                have huc : u.cells = #[u] := by cases u <;> first | rfl | cases hone
                refine run_buildSlice (P := P) w t e 1 _ #[u] i vz htu g1 g2 (by rw [g3]; omega) (by rw [g3]; omega) ?_
                rw [g3, hps, hpx, g4]
                simp only [List.map_cons, List.map_nil, hu]
                rw [fill_one (off := 0) (by rw [huc]; rfl) (by rw [huc]; simp)]
                rw [huc]
                simp [Instr.fill]
              have row1 : ∀ (k : Nat) es', [some es][k]? = some (some es') → k = 0 ∧ es' = es := by
                intro k es' h
                cases k with
                | zero => simp only [List.getElem?_cons_zero, Option.some.injEq] at h; exact ⟨rfl, h.symm⟩
                | succ k => simp at h
              rcases hcase with ⟨c, s0, m, hx, hcx, rfl⟩ | ⟨k, hx, rfl, rfl⟩
              · obtain ⟨Tk, Bk, hIk, hu, inv1, -⟩ := kil_step hI (by rw [hcx]; simp) hu
                obtain ⟨rfl, ⟨hnone, hlt⟩, rfl⟩ := upsNew rfl hu
                have hxr := ev_rv hI x
                rw [hx] at hxr
                have hone := rv_own1 hxr
                obtain ⟨ys, c1, c2, c3, c4, c5⟩ := hI.bxs c _ hcx
                obtain ⟨L', l1, l2⟩ := hIk.newMat (et := e) (ie := ie) (C := #[L.hd c]) (n := 1) (rows := [some es]) (fun _ => L.hd c) hnone hlt rfl rfl (by simp only [maxLen]; omega)
                  (fun k es' h => by
                    obtain ⟨rfl, rfl⟩ := row1 k es' h
                    exact ⟨rfl, hone, ys, c1, c2, c3⟩)
                  (fun k j es1 es2 g h h' _ _ => by rw [(row1 k es1 h).1, (row1 j es2 h').1])
                  (fun k es' g h hg => by
                    refine ⟨hI.lo c _ g hcx hg, fun b' x' hx' ho => ?_, fun o ho => ?_⟩
                    · obtain ⟨h1, y, h2, h3⟩ := inv1 b' x' g hx' ho
                      exact h1 (hI.inj b' c y _ g h2 hcx h3 hg)
                    · have := c4 g hg
                      subst this
                      have := (c5 (ownBlock_ne hg) o ho).1
                      cases this)
                refine zarr (by simp only [execOp, Sem.run_bind]; rw [hrun _ (rv_own hxr) hone]; rfl) (hK _ _ _ _ (fin l2 ?_ hp))
                rw [← l1]
                exact .own _ _ _ (by rw [l1]; rfl)
              · rw [List.nil_append] at hu
                obtain ⟨rfl, ⟨hnone, hlt⟩, rfl⟩ := upsNew rfl hu
                have hxr := ev_rv hI x
                rw [hx] at hxr
                obtain ⟨L', l1, l2⟩ := hI.newMat (et := e) (ie := ie) (C := #[.slice none 0 0]) (n := 1) (rows := [some []]) (fun _ => .slice none 0 0) hnone hlt rfl rfl (by simp only [maxLen]; omega)
                  (fun k es' h => by
                    obtain ⟨rfl, rfl⟩ := row1 k es' h
                    exact ⟨rfl, rfl, [], ⟨by simp, .inl ⟨rfl, rfl⟩⟩, by simp, by simp⟩)
                  (fun k j es1 es2 g h h' _ _ => by rw [(row1 k es1 h).1, (row1 j es2 h').1]) (fun k es' g h hg => by simp [Value.ownBlock] at hg)
                refine zarr (by simp only [execOp, Sem.run_bind]; rw [hrun _ (rv_nil hxr) rfl]; rfl) (hK _ _ _ _ (fin l2 ?_ hp))
                rw [← l1]
                exact .own _ _ _ (by rw [l1]; rfl)
            · exact rowCase ho hu hp
          · exact rowCase ho hu hp
        · cases ho
      · cases ho
    · cases ho
  · cases ho

/-! Maps. -/
theorem mapTy_spec (hS : TysOk P S) {T : TypeId} {kt et : Nat} {kd : TypeDesc} (h : mapTy S T = some (kt, et, kd)) : P.underlying T = some (.map kt et) ∧ P.underlying kt = some kd := by
  unfold mapTy at h
  split at h
  · rename_i ti ht
    split at h
    · rename_i k e hu
      split at h
      · rename_i tk htk
        have h1 := (hS _ _ ht).und
        have h2 := (hS _ _ htk).und
        split at h <;> first
          | (rename_i hk
             simp only [Option.some.injEq, Prod.mk.injEq] at h
             obtain ⟨rfl, rfl, rfl⟩ := h
             exact ⟨by rw [h1, hu], by rw [h2, hk]⟩)
          | cases h
      · cases h
    · cases h
  · cases h
theorem kdOf_key {kd : TypeDesc} {k : D} {u : Value} (h : kdOf kd k = true) (hr : Rep w A k u) : MapKept.IsKey kd u := by
  unfold kdOf at h
  split at h
  · simp only [decide_eq_true_eq] at h
    subst h
    cases hr
    exact rfl
  · cases hr; exact trivial
  · cases hr; exact trivial
  · cases h
theorem keyEq_iff {kd : TypeDesc} {k k' : D} {u u' : Value} (h : kdOf kd k = true) (hr : Rep w A k u) (hr' : Rep w A k' u') (hk' : MapKept.IsKey kd u') : keyEq k k' = true ↔ u' = u := by
  unfold kdOf at h
  split at h
  · rename_i q q' n
    simp only [decide_eq_true_eq] at h
    subst h
    cases hr
    cases hr' <;> first
      | (cases hk'; done)
      | (rename_i q2 n2
         have hq : q2 = q' := hk'
         subst hq
         simp only [keyEq, decide_true, Bool.true_and, decide_eq_true_eq, Value.int.injEq, true_and]
         exact eq_comm)
  · cases hr
    cases hr' <;> first
      | (cases hk'; done)
      | (simp only [keyEq, decide_eq_true_eq, Value.string.injEq]; exact eq_comm)
  · cases hr
    cases hr' <;> first
      | (cases hk'; done)
      | (simp only [keyEq, beq_iff_eq, Value.bool.injEq]; exact eq_comm)
  · cases h
/-- Entries against a list. -/
def MR (w : World) (A : Sta) (kd : TypeDesc) (es : List (D × D)) (l : List MapEntry) : Prop := l.length = es.length ∧ ∀ (j : Nat) p e, es[j]? = some p → l[j]? = some e → Rep w A p.1 e.key ∧ Rep w A p.2 e.val ∧ MapKept.IsKey kd e.key
theorem MR.tail {kd : TypeDesc} {p : D × D} {es : List (D × D)} {e : MapEntry} {l : List MapEntry} (h : MR w A kd (p :: es) (e :: l)) : MR w A kd es l :=
  ⟨by simpa using h.1, fun j q x hq hx => h.2 (j + 1) q x (by simpa using hq) (by simpa using hx)⟩
theorem mget_spec {kd : TypeDesc} {k : D} {u : Value} (hk : kdOf kd k = true) (hr : Rep w A k u) : ∀ {es : List (D × D)} {l : List MapEntry} (i : Nat), MR w A kd es l →
    (mget es k = none ∧ Instr.findNow kd u l i = some none ∧ ∀ v, mput es k v = es ++ [(k, v)]) ∨
      ∃ j e x, mget es k = some x ∧ Instr.findNow kd u l i = some (some (i + j, e.val)) ∧ l[j]? = some e ∧ e.key = u ∧ Rep w A x e.val ∧ ∀ v, mput es k v = es.set j (k, v) ∧ j < es.length
  | [], [], i, h => .inl ⟨rfl, rfl, fun v => rfl⟩
  | [], _ :: _, i, h => by cases h.1
  | _ :: _, [], i, h => by cases h.1
  | p :: es, e :: l, i, h => by
    obtain ⟨h1, h2, h3⟩ := h.2 0 p e rfl rfl
    obtain ⟨kk, vv⟩ := p
    have hiff := keyEq_iff hk hr h1 h3
    obtain ⟨r, hr1, hr2⟩ := MapKept.sameNow_of_keys (kdOf_key hk hr) h3
    cases hq : keyEq k kk with
    | true =>
      have hu := hiff.1 hq
      have hrt : r = true := hr2.2 hu.symm
      subst hrt
      right
      exact ⟨0, e, vv, by simp [mget, hq], by simp [Instr.findNow, hr1], rfl, hu, h2, fun v => ⟨by simp [mput, hq], by simp⟩⟩
    | false =>
      have hu : ¬ e.key = u := fun h' => by rw [hiff.2 h'] at hq; cases hq
      have hrf : r = false := by
        cases r with
        | false => rfl
        | true => exact absurd (hr2.1 rfl).symm hu
      subst hrf
      rcases mget_spec hk hr (es := es) (l := l) (i + 1) h.tail with ⟨g1, g2, g3⟩ | ⟨j, e', x, g1, g2, g3, g4, g5, g6⟩
      · left
        exact ⟨by simp [mget, hq, g1], by simp [Instr.findNow, hr1, g2], fun v => by simp [mput, hq, g3]⟩
      · right
        refine ⟨j + 1, e', x, by simp [mget, hq, g1], ?_, by simpa using g3, g4, g5, fun v => ⟨by simp [mput, hq, (g6 v).1], by have := (g6 v).2; simp; omega⟩⟩
        simp only [Instr.findNow, hr1, g2]
        rw [show i + 1 + j = i + (j + 1) by omega]

theorem s_makeMap {dst type pos after guard} (t : TypeId) : Sound P S ⟨dst, .makeMap t none, type, pos, after, guard⟩ := by
  refine ⟨?_⟩
  intro w0 A0 N L A T B a w v ups T1 B1 T2 K Q oc dr hoc hI ho hu hp hK
  simp only [eff] at ho
  split at ho
  · rename_i s kt et kd hm
    cases ho
    obtain ⟨rfl, ⟨hnone, hlt⟩, rfl⟩ := upsNew rfl hu
    have hI' := hI.adopt (w' := w.alloc (.map #[] 0)) (b := s) (L' := L.at s w.heap.size undef) (x := .map kt et kd []) (fun g => g = w.heap.size) hnone hlt rfl .rfl' rfl (by simp) (fun k hk _ => heap_old w _ hk)
      (fun g o hg ho => by subst hg; exact absurd (hI.Aok _ o ho) (by omega)) (fun g hg => by subst hg; exact ⟨.inl hI.below.size, by simp⟩)
      (fun g b' x' hg hx' ho => by subst hg; have := (hI.lo b' x' _ hx' ho).2; omega) (fun b' hb' => Lay.at_eq hb') (fun _ _ => rfl)
      ⟨#[], 0, by rw [Lay.at_ι]; exact heap_new w _, rfl, fun j p e h => by simp at h, fun o ho => by rw [Lay.at_ι] at ho; exact absurd (hI.Aok _ o ho) (by omega), fun j e h => by simp at h, rfl⟩
      (fun g hg => by rw [show g = _ from hg]; exact Lay.at_ι) (fun b' hb' => (by cases hb'))
    refine zarr (u := .map (some w.heap.size)) (w' := w.alloc (.map #[] 0)) (by simp only [execOp, Instr.makeMap]; rfl) (hK _ _ _ _ (fin hI' ?_ hp))
    have := RV.mp (L := L.at s w.heap.size undef) (w := w.alloc (.map #[] 0)) (A := A) s
    rwa [Lay.at_ι] at this
  · cases ho

/-- The zero of a type, whole. -/
theorem zeroV {t : TypeId} {ti : TI} (ht : TyOk P t ti) {z : D} (hz : zeroFl ti = some z) {w : World} {A : Sta} : ∃ v, (∀ w, (zeroValue t).run P w = .ok v w) ∧ Rep w A z v := by
  obtain ⟨hfl, i, v, h1, h2, h3, h4, h5, h6⟩ := zeroD ht hz (w := w) (A := A)
  refine ⟨v, fun w => by simp [zeroValue, typeInfo, h1, h2], ?_⟩
  have ha := ht.agg i v h1 h2
  unfold zeroFl at hz
  split at hz
  · cases hz
  · split at hz
    · rename_i ds hds
      split at hz
      · rename_i z' hel
        split at hz
        · cases hz
          unfold elemD at hel
          cases hg : isAggT ti.und with
          | true =>
            rw [hg] at ha hel
            obtain ⟨vs, rfl⟩ := ha
            cases hel
            exact .agg (by simp only [D.cells] at h5; simp only [Value.cells] at h4; omega) (flat_one hfl) (by simpa [D.cells, Value.cells] using h6)
          | false =>
            rw [hg] at ha hel
            simp only at hel
            split at hel
            · rename_i x
              split at hel
              · rename_i h1x
                cases hel
                have hvc : v.cells = #[v] := by cases v <;> first | rfl | cases ha
                rw [(one_cells h1x).1, hvc] at h6
                exact h6 0 _ v rfl rfl
              · cases hel
            · cases hel
        · cases hz
      · cases hz
    · cases hz

theorem s_lookup (hS : TysOk P S) {dst type pos after guard} (t : TypeId) (x i : Operand) (ok : Bool) : Sound P S ⟨dst, .lookup t x i ok, type, pos, after, guard⟩ := by
  refine ⟨?_⟩
  intro w0 A0 N L A T B a w v ups T1 B1 T2 K Q oc dr hoc hI ho hu hp hK
  have hx := ev_rv hI x
  have hi := ev_rv hI i
  simp only [eff] at ho
  refine outV hI ho hu hp hK ?_
  split at ho
  · rename_i kt et kd b k hm hxb hik
    rw [hxb] at hx
    have hx := rv_mp hx
    rw [hik] at hi
    have hi := rv_d hi
    obtain ⟨m1, m2⟩ := mapTy_spec hS hm
    split at ho
    · rename_i kt' et' kd' es te hbx hte
      have hte := hS _ _ hte
      split at ho
      · rename_i z hz hkd
        cases ho with
        | need hn ho =>
          obtain ⟨rfl, rfl, rfl⟩ := hn
          obtain ⟨E, c, e1, e2, e3, e4⟩ := hI.bxs b _ hbx
          have hMR : MR w A kd' es E.toList := ⟨by simpa using e2, fun j p e hp he => e3 j p e hp (by simpa using he)⟩
          have hchk := MapKept.run_checkKey (P := P) (w := w) m2 (kdOf_key hkd hi)
          have fin' : ∀ (d : D) (u : Value) (o : Bool), (do let (v, ok) ← (do match ← Instr.findKey kt' (a.eval i) E.toList with
                | some (_, v) => pure (v, true)
                | none => pure (← zeroValue et', false) : Sem (Value × Bool)); pure (if ok then .tuple #[v, .bool ok] else v) : Sem Value).run P w = .ok u w → True := fun _ _ _ _ => trivial
          rcases mget_spec hkd hi 0 hMR with ⟨g1, g2, g3⟩ | ⟨j, e', xx, g1, g2, g3, g4, g5, g6⟩
          · cases ho with
            | hit he ho => rw [g1] at he; cases he
            | miss he ho =>
              obtain ⟨zv, hz1, hz2⟩ := zeroV hte hz (w := w) (A := A)
              have hf := MapKept.run_findKey (P := P) (w := w) m2 g2
              cases ok with
              | true =>
                cases ho
                refine ⟨rfl, .tuple #[zv, .bool false], ?_, .d (.tup rfl fun j c u hc hu => ?_)⟩
                · simp [execOp, Instr.lookup, run_underlying m1, hx, MapKept.run_getObj_map e1, hchk, hf, hz1]
                · match j with
                  | 0 => simp at hc hu; subst hc; subst hu; exact hz2
                  | 1 => simp at hc hu; subst hc; subst hu; exact .bool _
                  | j + 2 => simp at hc
              | false =>
                cases ho
                exact ⟨rfl, zv, by simp [execOp, Instr.lookup, run_underlying m1, hx, MapKept.run_getObj_map e1, hchk, hf, hz1], .d hz2⟩
          · cases ho with
            | miss he ho => rw [g1] at he; cases he
            | hit he ho =>
              rw [g1] at he
              cases he
              have hf := MapKept.run_findKey (P := P) (w := w) m2 g2
              cases ok with
              | true =>
                cases ho
                refine ⟨rfl, .tuple #[e'.val, .bool true], ?_, .d (.tup rfl fun j c u hc hu => ?_)⟩
                · simp [execOp, Instr.lookup, run_underlying m1, hx, MapKept.run_getObj_map e1, hchk, hf]
                · match j with
                  | 0 => simp at hc hu; subst hc; subst hu; exact g5
                  | 1 => simp at hc hu; subst hc; subst hu; exact .bool _
                  | j + 2 => simp at hc
              | false =>
                cases ho
                exact ⟨rfl, e'.val, by simp [execOp, Instr.lookup, run_underlying m1, hx, MapKept.run_getObj_map e1, hchk, hf], .d g5⟩
      · cases ho
    · cases ho
  · cases ho

theorem mapSet_sound (hS : TysOk P S) {o : Oper} {t : TypeId} {m i x : Operand} {v : AV} {ups} {T1 T2 : Nat → AV} {B1 : Nat → Option Bx} {K : Act → World → Prop} {Q : Exit → Act → World → Prop}
    (hI : Inv w0 A0 N L A T B a w) (ho : Out P oc (mapSet S B t (evA T m) (evA T i) (evA T x)) v ups) (hu : UpsR o.dst ups T B T1 B1) (hp : PutR N o.dst v T1 B1 T2)
    (hrun : execOp a.eval o = (do Instr.mapUpdate t (a.eval m) (a.eval i) (a.eval x); pure .skip)) (hK : ∀ L' A' a' w', Inv w0 A0 N L' A' T2 B1 a' w' → K a' w') : o.wp P a w K Q := by
  have hm := ev_rv hI m
  have hi := ev_rv hI i
  unfold mapSet at ho
  split at ho
  · rename_i kt et kd b k hmt hxb hik
    rw [hxb] at hm
    have hm := rv_mp hm
    rw [hik] at hi
    have hi := rv_d hi
    obtain ⟨m1, m2⟩ := mapTy_spec hS hmt
    split at ho
    · rename_i kt' et' kd' es hbx hkd
      cases ho with
      | need hn ho =>
        obtain ⟨rfl, rfl, rfl⟩ := hn
        obtain ⟨d, us, ho, g1, g2⟩ := frzAK_out hI (resz_rv (S := S) (t := et') (ev_rv hI x)) ho
        cases ho
        obtain ⟨A', B2, k1, k2, k3, k4, k5, k6⟩ := frz_ups g1 idRows hI hu
        obtain ⟨y, hy, hfy⟩ := k5 b _ hbx
        have hy' : y = .map kt' et' kd' es := hfy
        subst hy'
        obtain ⟨rfl, rfl, _⟩ := upsOne k3 (by rw [hy]; simp)
        have hd := g2 A' k1 k4
        obtain ⟨E, c, e1, e2, e3, e4, e5, e6⟩ := k2.bxs b _ hy
        have hMR : MR w A' kd' es E.toList := ⟨by simpa using e2, fun j p e hp he => e3 j p e hp (by simpa using he)⟩
        have hi' : Rep w A' k (a.eval i) := hi.frame k1 fun _ _ _ => rfl
        have hkey := kdOf_key hkd hi'
        have hchk := MapKept.run_checkKey (P := P) (w := w) m2 hkey
        have hlt : L.ι b < w.heap.size := (k2.lo b _ _ hy rfl).2
        -- the map's block turns
        have turn : ∀ (E' : Array MapEntry) (c' : Nat), MR w A' kd' (mput es k d) E'.toList → ((∀ (j : Nat) e, E'[j]? = some e → e.born = j) ∧ c' = (mput es k d).length) → (execOp a.eval o).run P w = .ok .skip { w with heap := w.heap.setIfInBounds (L.ι b) (.map E' c') } →
            o.wp P a w K Q := by
          intro E' c' hE' hE2 hr
          obtain ⟨s1, s2⟩ := MapKept.heap_set (o' := .map E' c') e1
          have hA : ∀ g q, A' g q → World.cell? { w with heap := w.heap.setIfInBounds (L.ι b) (.map E' c') } ⟨g, q, none⟩ = w.cell? ⟨g, q, none⟩ := by
            intro g q hg
            refine World.cell?_of_block (w := w) (s2 g ?_)
            rintro rfl
            exact e4 q hg
          have hI' := k2.store (w' := { w with heap := w.heap.setIfInBounds (L.ι b) (.map E' c') }) (L' := L) (x' := .map kt' et' kd' (mput es k d)) hy (fun g q hg => by rw [show g = L.ι b from hg]; exact e4 q) rfl .rfl' rfl (by simp) (fun g hg => s2 g hg) (fun _ => .rfl') (fun _ _ => rfl)
            ⟨E', c', s1, by simpa using hE'.1, fun j p e hp he => by
              obtain ⟨h1, h2, h3⟩ := hE'.2 j p e hp (by simpa using he)
              exact ⟨h1.frame (fun _ _ h => h) hA, h2.frame (fun _ _ h => h) hA, h3⟩, e4, hE2⟩ (fun _ h => h) (fun b' hb' => (by cases hb'))
          exact zskip hr (hK _ _ _ _ (undef_fin hI' hp))
        rcases mget_spec hkd hi' 0 hMR with ⟨g1, g2, g3⟩ | ⟨j, e', xx, g1, g2, g3, g4, g5, g6⟩
        · have hf := MapKept.run_findKey (P := P) (w := w) m2 g2
          refine turn (E.push { key := a.eval i, val := a.eval x, born := c }) (c + 1) ?_ ⟨fun j e he => ?_, by rw [g3 d]; simp [e6]⟩ ?_
          · rw [g3 d]
            refine ⟨by simp [e2], fun j p e hp he => ?_⟩
            simp only [Array.toList_push] at he
            rcases Nat.lt_or_ge j es.length with hj | hj
            · rw [List.getElem?_append_left hj] at hp
              rw [List.getElem?_append_left (by simp; omega)] at he
              exact hMR.2 j p e hp he
            · rw [List.getElem?_append_right hj] at hp
              rw [List.getElem?_append_right (by simp; omega)] at he
              have hj0 : j - es.length = 0 := by have := lt_of_get hp; simp at this; omega
              rw [hj0] at hp
              have : j - E.toList.length = 0 := by simp; omega
              rw [this] at he
              simp only [List.getElem?_cons_zero, Option.some.injEq] at hp he
              subst hp; subst he
              exact ⟨hi', hd, hkey⟩
          · rw [Array.getElem?_push] at he
            split at he
            · cases he; simp only; omega
            · exact e5 j e he
          · rw [hrun]
            simp [Instr.mapUpdate, run_underlying m1, hm, MapKept.run_getObj_map e1, hchk, hf, MapKept.run_setObj_map _ e1]
        · have hf := MapKept.run_findKey (P := P) (w := w) m2 g2
          have hj : E[j]? = some e' := by simpa using g3
          refine turn (E.modify j fun e => { e with key := a.eval i, val := a.eval x }) c ?_ ⟨fun j' e he => ?_, by rw [(g6 d).1]; simp [e6]⟩ ?_
          · rw [(g6 d).1]
            refine ⟨by simp [e2], fun j' p e hp he => ?_⟩
            rw [Array.getElem?_toList, Array.getElem?_modify] at he
            rw [List.getElem?_set] at hp
            by_cases hjj : j = j'
            · subst hjj
              rw [if_pos rfl, if_pos (g6 d).2] at hp
              rw [if_pos rfl, hj] at he
              cases hp
              simp only [Option.map_some, Option.some.injEq] at he
              subst he
              exact ⟨hi', hd, hkey⟩
            · rw [if_neg hjj] at hp he
              exact e3 j' p e hp he
          · rw [Array.getElem?_modify] at he
            split at he
            · rename_i hjj
              subst hjj
              rw [hj] at he
              cases he
              exact e5 j e' hj
            · exact e5 j' e he
          · rw [hrun]
            have hkt := MapKept.run_keyThatStays (P := P) (w := w) hkey
            simp [Instr.mapUpdate, run_underlying m1, hm, MapKept.run_getObj_map e1, hchk, hf, hj, g4, hkt, MapKept.run_setObj_map _ e1]
    · cases ho
  · cases ho
theorem s_mapUpdate (hS : TysOk P S) {dst type pos after guard} (t : TypeId) (m i x : Operand) : Sound P S ⟨dst, .mapUpdate t m i x, type, pos, after, guard⟩ := by
  refine ⟨?_⟩
  intro w0 A0 N L A T B a w v ups T1 B1 T2 K Q oc dr hoc hI ho hu hp hK
  simp only [eff] at ho
  exact mapSet_sound hS hI ho hu hp rfl hK
theorem s_insert (hS : TysOk P S) {dst type pos after guard} (t : TypeId) (m i x : Operand) : Sound P S ⟨dst, .insert t m i x, type, pos, after, guard⟩ := by
  refine ⟨?_⟩
  intro w0 A0 N L A T B a w v ups T1 B1 T2 K Q oc dr hoc hI ho hu hp hK
  simp only [eff] at ho
  exact mapSet_sound hS hI ho hu hp rfl hK
end
end Go.Vm
end

section
/- Each operation, twelfth part: a map that is gone through. -/
namespace Go.Vm
open Go.RowKit (Below)
open Go.ChangeMaps (setBlock)
section
variable {P : Program} {S : Tys} {oc : Option Orc}
variable {w0 : Ent} {A0 : Sta} {N : Nat} {L : Lay} {A : Sta} {T : Nat → AV} {B : Nat → Option Bx} {a : Act} {w : World}
theorem left_of {E : Array MapEntry} {seen : List Nat} {n : Nat} (hE : ∀ (j : Nat) e, E[j]? = some e → e.born = j) (hn : E.size = n) :
    (leftOf E seen.reverse.toArray).toList = (leftN n seen).map fun j => (E[j]?).getD default := by
  have h1 : E.toList = (List.range n).map fun j => (E[j]?).getD default := by
    apply List.ext_getElem?
    intro j
    rw [List.getElem?_map]
    rcases Nat.lt_or_ge j n with h | h
    · rw [List.getElem?_range h, Array.getElem?_toList, Array.getElem?_eq_getElem (by omega)]; simp [show j < E.size by omega]
    · rw [List.getElem?_eq_none (by simp; omega), List.getElem?_eq_none (by simp; omega)]; rfl
  unfold leftOf leftN
  rw [Array.toList_filter, h1, List.filter_map]
  congr 1
  refine List.filter_congr fun j hj => ?_
  have hj := List.mem_range.1 hj
  have := hE j E[j] (Array.getElem?_eq_getElem (by omega))
  simp [show j < E.size by omega, this]

theorem next_run {r m n : Nat} {E : Array MapEntry} {seen : List Nat} {ty : TypeId} (hr : w.heap[r]? = some (.mapIter (some m) n seen.reverse.toArray n)) (hb : w.heap[m]? = some (.map E n))
    (hE : ∀ (j : Nat) e, E[j]? = some e → e.born = j) (hn : E.size = n) :
    (chW w n seen = none ∧ (Instr.next (.pointer (some ⟨r, 0, none⟩)) false ty).run P w = .ok (.tuple #[.bool false]) w) ∨
    ∃ j e w1, chW w n seen = some j ∧ E[j]? = some e ∧ (w1 = w ∨ w1 = w.drew) ∧
      (Instr.next (.pointer (some ⟨r, 0, none⟩)) false ty).run P w = .ok (.tuple #[.bool true, e.key, e.val]) (setBlock w1 r (.mapIter (some m) n (j :: seen).reverse.toArray n)) := by
  have hold : ∀ x ∈ E.toList, x.born < n := by
    intro x hx
    obtain ⟨j, hj⟩ := List.getElem?_of_mem hx
    have h1 := hE j x (by simpa using hj)
    have h2 := (List.getElem?_eq_some_iff.1 hj).1
    simp only [Array.length_toList] at h2
    omega
  have hL := left_of (seen := seen) hE hn
  simp only [Instr.next, getObj, Sem.run_bind, Sem.run, hr, hb, Result.andThen, next_test_false seen.reverse.toArray E n n hold (Nat.le_refl _), Bool.false_eq_true, if_false]
  have hmem : ∀ x ∈ (leftOf E seen.reverse.toArray).toList, x.born < n := by
    intro x hx
    unfold leftOf at hx
    exact hold x (by simp at hx ⊢; exact hx.1)
  change (_ ∧ _ = _) ∨ _
  unfold leftOf at hL hmem
  generalize Array.filter (fun e => !seen.reverse.toArray.contains e.born) E = Z at hmem hL ⊢
  have e1 : Z.filter (fun x => decide (x.born < n)) = Z := Array.filter_eq_self.2 (fun x hx => by simpa using hmem x (by simpa using hx))
  have e2 : Z.filter (fun x => decide (x.born ≥ n)) = #[] := by
    rw [Array.filter_eq_empty_iff]
    intro x hx
    have := hmem x (by simpa using hx)
    simp
    omega
  simp only [e1, e2, Array.append_empty]
  have hs : Z.size = (leftN n seen).length := by rw [← Array.length_toList, hL, List.length_map]
  by_cases h0 : Z.size = 0
  · left
    have : Z = #[] := Array.eq_empty_of_size_eq_zero h0
    subst this
    have hl : leftN n seen = [] := List.eq_nil_of_length_eq_zero (by rw [← hs]; rfl)
    refine ⟨by simp only [chW, hl, List.getElem?_nil], ?_⟩
    simp [choose, Sem.run, Question.forced]
  · right
    have hne : Z.isEmpty = false := by simp [Array.isEmpty, h0]
    simp only [hne, Bool.false_eq_true, if_false, Array.empty_append, Array.size_map]
    have hc : candN n seen = Z.size := by
      rw [hs]
      unfold candN
      split
      · rename_i h; rw [hs, h] at h0; exact absurd rfl h0
      · rfl
    have hch : ∃ (k : Nat) (w1 : World), k < Z.size ∧ (w1 = w ∨ w1 = w.drew) ∧ (choose (Question.mapNext Z.size)).run P w = .ok k w1 ∧ chW w n seen = (leftN n seen)[k]? := by
      unfold chW
      rw [hc]
      by_cases hf : Z.size ≤ 1
      · exact ⟨0, w, by omega, Or.inl rfl, by simp [choose, Sem.run, Question.forced, hf], by simp [Question.forced, hf]⟩
      · exact ⟨_, w.drew, Nat.mod_lt (w.tape w.drawn (.mapNext Z.size)) (by omega), Or.inr rfl, by
          simp only [choose, Sem.run, Question.forced, decide_eq_true_eq, hf, if_false, Question.cut]
          rfl, by simp [Question.forced, hf, Question.cut]⟩
    obtain ⟨k, w1, hk, hal, hrun, hcw⟩ := hch
    have hk' : k < (leftN n seen).length := by omega
    have hj : (leftN n seen)[k]? = some (leftN n seen)[k] := List.getElem?_eq_getElem hk'
    rw [hj] at hcw
    obtain ⟨hj1, hj2⟩ := chW_some hcw
    generalize (leftN n seen)[k] = j at *
    have hEj : E[j]? = some E[j] := Array.getElem?_eq_getElem (by omega)
    have hZ : Z[k]? = some E[j] := by
      rw [← Array.getElem?_toList, hL, List.getElem?_map, hj, Option.map_some, hEj]; rfl
    refine ⟨j, E[j], w1, hcw, hEj, hal, ?_⟩
    have hr1 : w1.heap[r]? = some (.mapIter (some m) n seen.reverse.toArray n) := by rcases hal with rfl | rfl <;> exact hr
    have hp : (j :: seen).reverse.toArray = seen.reverse.toArray.push E[j].born := by rw [hE j _ hEj]; simp
    simp only [hrun, Array.getElem?_map, hZ, Option.map_some, Sem.run_bind, run_setObj_at hr1, Result.andThen, hp]
    rfl

theorem s_range (hS : TysOk P S) {dst type pos after guard} (t : TypeId) (x : Operand) : Sound P S ⟨dst, .range t x, type, pos, after, guard⟩ := by
  refine ⟨?_⟩
  intro w0 A0 N L A T B a w v ups T1 B1 T2 K Q oc dr hoc hI ho hu hp hK
  have hx := ev_rv hI x
  simp only [eff] at ho
  split at ho
  · rename_i s q b hm hxb
    obtain ⟨kt, et, kd⟩ := q
    rw [hxb] at hx
    have hx := rv_mp hx
    obtain ⟨m1, m2⟩ := mapTy_spec hS hm
    split at ho
    · rename_i kt' et' kd' es hbx
      cases ho
      obtain ⟨rfl, ⟨hnone, hlt⟩, rfl⟩ := upsNew rfl hu
      obtain ⟨E, c, e1, e2, e3, e4, e5, e6⟩ := hI.bxs b _ hbx
      have hsb : b ≠ s := by rintro rfl; rw [hnone] at hbx; cases hbx
      have hI' := hI.adopt (w' := w.alloc (.mapIter (some (L.ι b)) c #[] c)) (b := s) (L' := L.at s w.heap.size undef) (x := .iter (some b) es.length []) (fun g => g = w.heap.size) hnone hlt rfl .rfl' rfl (by simp) (fun k hk _ => heap_old w _ hk)
        (fun g o hg ho => by subst hg; exact absurd (hI.Aok _ o ho) (by omega)) (fun g hg => by subst hg; exact ⟨.inl hI.below.size, by simp⟩)
        (fun g b' x' hg hx' ho => by subst hg; have := (hI.lo b' x' _ hx' ho).2; omega) (fun b' hb' => Lay.at_eq hb') (fun _ _ => rfl)
        ⟨⟨some (L.ι b), by rw [Lay.at_ι, ← e6]; exact heap_new w _, fun b' hb' => by cases hb'; rw [(Lay.at_eq hsb).ι]⟩, fun o ho => by rw [Lay.at_ι] at ho; exact absurd (hI.Aok _ o ho) (by omega)⟩
        (fun g hg => by rw [show g = _ from hg]; exact Lay.at_ι) (fun b' hb' => by
          rw [Nat.eq_of_beq_eq_true (show Nat.beq b' b = true from hb'), upd_ne _ _ hsb, hbx]; simp)
      refine zarr (u := .pointer (some ⟨w.heap.size, 0, none⟩)) (w' := w.alloc (.mapIter (some (L.ι b)) c #[] c)) (by simp [execOp, Instr.range, run_underlying m1, hx, MapKept.run_getObj_map e1]) (hK _ _ _ _ (fin hI' ?_ hp))
      have := RV.ptr (L := L.at s w.heap.size undef) (w := w.alloc (.mapIter (some (L.ι b)) c #[] c)) (A := A) s 0
      rwa [Lay.at_ι] at this
    · cases ho
  · cases ho

theorem s_next {dst type pos after guard} (x : Operand) (str : Bool) : Sound P S ⟨dst, .next x str, type, pos, after, guard⟩ := by
  refine ⟨?_⟩
  intro w0 A0 N L A T B a w v ups T1 B1 T2 K Q oc dr hoc hI ho hu hp hK
  have hx := ev_rv hI x
  simp only [eff] at ho
  split at ho
  · rename_i b hxb
    rw [hxb] at hx
    have hx := rv_ptr hx
    split at ho
    · rename_i m n seen hbx
      split at ho
      · rename_i kt et kd es hbm
        cases ho with
        | need hn ho =>
          cases ho with
          | nxt hw ho =>
            rw [hoc] at hw
            cases hw
            obtain ⟨⟨g, i1, i2⟩, i3⟩ := hI.bxs b _ hbx
            have hg := i2 m rfl
            subst hg
            obtain ⟨E, c, e1, e2, e3, e4, e5, e6⟩ := hI.bxs m _ hbm
            rw [e6, hn] at e1
            rw [hn] at ho
            rcases next_run (P := P) (ty := type) i1 e1 e5 (by rw [e2, hn]) with ⟨c1, hrun⟩ | ⟨j, e, w1, c1, c2, hal, hrun⟩
            · rw [c1] at ho
              cases ho
              refine outV (oc := none) (r := .ok (.d (.tup [.bool false])) []) hI (.ok _ _) hu hp hK ⟨rfl, .tuple #[.bool false], ?_, .d (.tup rfl fun j c u hc hu => ?_)⟩
              · simp [execOp, hx, hrun]
              · match j with
                | 0 => simp at hc hu; subst hc; subst hu; exact .bool _
                | j + 1 => simp at hc
            · rw [c1] at ho
              have hj := (chW_some c1).1
              have hpj : es[j]? = some es[j] := List.getElem?_eq_getElem (by omega)
              simp only [hpj] at ho
              cases ho
              obtain ⟨rfl, rfl, _⟩ := upsOne hu (by rw [hbx]; simp)
              obtain ⟨r1, r2, r3⟩ := e3 j _ _ hpj c2
              have hlt : L.ι b < w.heap.size := (hI.lo b _ _ hbx rfl).2
              have hw1 : w1.heap = w.heap ∧ w1.os = w.os ∧ TapeOn w w1 ∧ w1.output = w.output := by rcases hal with rfl | rfl; exact ⟨rfl, rfl, .rfl', rfl⟩; exact ⟨rfl, rfl, ⟨rfl, Nat.le_succ _⟩, rfl⟩
              have s1 : (setBlock w1 (L.ι b) (.mapIter (some (L.ι m)) n (j :: seen).reverse.toArray n)).heap[L.ι b]? = some (.mapIter (some (L.ι m)) n (j :: seen).reverse.toArray n) := by
                simp [setBlock, hw1.1, hlt]
              have s2 : ∀ k, k ≠ L.ι b → (setBlock w1 (L.ι b) (.mapIter (some (L.ι m)) n (j :: seen).reverse.toArray n)).heap[k]? = w.heap[k]? := by
                intro k hk
                simp only [setBlock, hw1.1]
                exact Array.getElem?_setIfInBounds_ne (fun h => hk h.symm)
              have hA : ∀ g q, A g q → (setBlock w1 (L.ι b) (.mapIter (some (L.ι m)) n (j :: seen).reverse.toArray n)).cell? ⟨g, q, none⟩ = w.cell? ⟨g, q, none⟩ := by
                intro g q hg
                refine World.cell?_of_block (w := w) (s2 g ?_)
                rintro rfl
                exact i3 q hg
              have hI' := hI.store (w' := setBlock w1 (L.ι b) (.mapIter (some (L.ι m)) n (j :: seen).reverse.toArray n)) (L' := L) (x' := .iter (some m) n (j :: seen)) hbx (fun g q hg => by rw [show g = L.ι b from hg]; exact i3 q)
                hw1.2.1 hw1.2.2.1 hw1.2.2.2 (by simp [setBlock, hw1.1]) (fun g hg => s2 g hg) (fun _ => .rfl') (fun _ _ => rfl)
                ⟨⟨_, s1, fun b' hb' => by cases hb'; rfl⟩, i3⟩ (fun _ h => h) (fun b' hb' => by
                  rw [Nat.eq_of_beq_eq_true (show Nat.beq b' m = true from hb'), hbm]; simp)
              refine zarr (u := .tuple #[.bool true, e.key, e.val]) (w' := setBlock w1 (L.ι b) (.mapIter (some (L.ι m)) n (j :: seen).reverse.toArray n)) (by simp only [execOp, hx]; simp [hrun]) (hK _ _ _ _ (fin hI' (.d (.tup rfl fun j c u hc hu => ?_)) hp))
              match j with
              | 0 => simp at hc hu; subst hc; subst hu; exact .bool _
              | 1 => simp at hc hu; subst hc; subst hu; exact r1.frame (fun _ _ h => h) hA
              | 2 => simp at hc hu; subst hc; subst hu; exact r2.frame (fun _ _ h => h) hA
              | j + 3 => simp at hc
      · cases ho
    · cases ho
  · cases ho

theorem s_entry {dst type pos after guard} (x : Operand) : Sound P S ⟨dst, .entry x, type, pos, after, guard⟩ := by
  refine ⟨?_⟩
  intro w0 A0 N L A T B a w v ups T1 B1 T2 K Q oc dr hoc hI ho hu hp hK
  have hx := ev_rv hI x
  simp only [eff] at ho
  refine outV hI ho hu hp hK ?_
  split at ho
  · rename_i b hxb
    rw [hxb] at hx
    have hx := rv_ptr hx
    split at ho
    · rename_i m n j rest hbx
      split at ho
      · rename_i kt et kd es hbm
        cases ho with
        | need hn ho =>
          cases ho with
          | pick he ho =>
            cases ho
            obtain ⟨⟨g, i1, i2⟩, i3⟩ := hI.bxs b _ hbx
            have hg := i2 m rfl
            subst hg
            obtain ⟨E, c, e1, e2, e3, e4, e5, e6⟩ := hI.bxs m _ hbm
            rw [e6, hn] at e1
            rw [List.getElem?_map, Option.map_eq_some_iff] at he
            obtain ⟨p, hp', rfl⟩ := he
            have hj : j < E.size := by rw [e2]; exact lt_of_get hp'
            have hEj : E[j]? = some E[j] := Array.getElem?_eq_getElem hj
            obtain ⟨r1, r2, r3⟩ := e3 j _ _ hp' hEj
            have hb := e5 j _ hEj
            refine ⟨rfl, .tuple #[E[j].key, E[j].val], ?_, .d (.tup rfl fun j c u hc hu => ?_)⟩
            · have hpush : (j :: rest).reverse.toArray = rest.reverse.toArray.push E[j].born := by rw [hb]; simp
              rw [hpush] at i1
              have hnd : (E.toList.map (·.born)).Nodup := by
                have : E.toList.map (·.born) = List.range E.size := by
                  apply List.ext_getElem?
                  intro k
                  rw [List.getElem?_map, Array.getElem?_toList]
                  rcases Nat.lt_or_ge k E.size with h | h
                  · rw [List.getElem?_range h, Array.getElem?_eq_getElem h, Option.map_some, e5 k _ (Array.getElem?_eq_getElem h)]
                  · rw [List.getElem?_eq_none (by simpa using h), Array.getElem?_eq_none h]; rfl
                rw [this]; exact List.nodup_range
              have := run_entry_at (P := P) w _ _ n _ E n E[j] i1 e1 (by simp) hnd
              simp [execOp, hx, this]
            · match j with
              | 0 => simp at hc hu; subst hc; subst hu; exact r1
              | 1 => simp at hc hu; subst hc; subst hu; exact r2
              | j + 2 => simp at hc
      · cases ho
    · cases ho
  · cases ho
end
end Go.Vm
end

section
/- Each operation, last part: 'clear' and 'copy' on slices that the call owns. -/
namespace Go.Vm
open Go.RowKit (Below)
section
variable {P : Program} {S : Tys} {oc : Option Orc}
variable {w0 : Ent} {A0 : Sta} {N : Nat} {L : Lay} {A : Sta} {T : Nat → AV} {B : Nat → Option Bx} {a : Act} {w : World}
/-- Some elements of a row are written. -/
theorem rowSplice (hI : Inv w0 A0 N L A T B a w) {b et sz lo : Nat} {es nw : List D} {vs : List Value} (hbx : B b = some (.row et sz es false)) (hpos : 0 < nw.length) (hfit : lo + nw.length ≤ es.length) (hvl : vs.length = nw.length * sz)
    (h2 : ∀ (i : Nat) e, nw[i]? = some e → e.cells.length = sz ∧ e.flat = true) (h3 : ∀ (i : Nat) e (j : Nat) c v, nw[i]? = some e → e.cells[j]? = some c → vs[i * sz + j]? = some v → Rep w A c v) :
    ∃ C, w.heap[L.ι b]? = some (.cells C et (0, 0)) ∧ (L.hd b).ownBlock = some (L.ι b) ∧ lo * sz + vs.length ≤ C.size ∧
      Inv w0 A0 N L A T (upd B b (some (.row et sz (es.take lo ++ nw ++ es.drop (lo + nw.length)) false))) a (w.setRow (L.ι b) (C.toList.take (lo * sz) ++ vs ++ C.toList.drop (lo * sz + vs.length)).toArray) := by
  obtain ⟨xs, g1, g2, g3, g4, g5⟩ := hI.bxs b _ hbx
  have hob : (L.hd b).ownBlock = some (L.ι b) := by
    cases hob : (L.hd b).ownBlock with
    | none => have := (ownBlock_none g1 hob).2; omega
    | some g => rw [g4 g hob]
  have hfit' : lo * sz + vs.length ≤ es.length * sz := by
    rw [hvl, ← Nat.add_mul]; exact Nat.mul_le_mul_right _ hfit
  obtain ⟨C, q1, q2, q3⟩ := ownsRow_write g1 hob (lo * sz) vs hfit'
  have hno : ∀ o, ¬ A (L.ι b) o := fun o ho => by have := (g5 (ownBlock_ne hob) o ho).1; cases this
  have hA : ∀ g' o, A g' o → (w.setRow (L.ι b) (C.toList.take (lo * sz) ++ vs ++ C.toList.drop (lo * sz + vs.length)).toArray).cell? ⟨g', o, none⟩ = w.cell? ⟨g', o, none⟩ := by
    intro g' o hg'
    refine cell_setRow_other _ _ _ _ ?_
    rintro rfl
    exact hno o hg'
  refine ⟨C, q1, hob, q2, hI.store hbx (fun k o hk => by rw [g4 k hk]; exact hno o) rfl .rfl' rfl (by simp) (fun k hk => setRow_other _ _ _ _ (by rintro rfl; exact hk hob)) (fun _ => .rfl') (fun _ _ => rfl) ?_ (fun _ h => h) (fun b' hb' => (by cases hb'))⟩
  have hxl : xs.length = es.length * sz := g1.1
  refine ⟨_, by rw [spl_len hfit]; exact q3, fun i e he => ?_, fun i e j c v he hc hv => ?_, g4, fun _ o ho => absurd ho (hno o)⟩
  · rw [spl_get' hfit] at he
    split at he
    · exact h2 _ e he
    · exact g2 i e he
  · rw [spl_get' (by omega)] at hv
    rw [spl_get' hfit] at he
    split at he
    · rename_i hin
      have hj : j < sz := by rw [← (h2 _ e he).1]; exact lt_of_get hc
      obtain ⟨q, rfl⟩ : ∃ q, i = lo + q := ⟨i - lo, by omega⟩
      have e1 : lo + q - lo = q := by omega
      rw [e1] at he
      have hq : (q + 1) * sz ≤ nw.length * sz := Nat.mul_le_mul_right _ (lt_of_get he)
      rw [Nat.add_mul] at hq
      have e2 : (lo + q) * sz = lo * sz + q * sz := Nat.add_mul _ _ _
      rw [if_pos (by omega), show (lo + q) * sz + j - lo * sz = q * sz + j by omega] at hv
      exact (h3 q e j c v he hc hv).frame (fun _ _ h => h) hA
    · rename_i hin
      have hj : j < sz := by rw [← (g2 _ e he).1]; exact lt_of_get hc
      rw [if_neg] at hv
      · exact (g3 i e j c v he hc hv).frame (fun _ _ h => h) hA
      · intro hin'
        rcases Nat.lt_or_ge i lo with h9 | h9
        · have : (i + 1) * sz ≤ lo * sz := Nat.mul_le_mul_right _ h9
          rw [Nat.add_mul] at this
          omega
        · have : (lo + nw.length) * sz ≤ i * sz := Nat.mul_le_mul_right _ (by omega)
          rw [Nat.add_mul] at this
          omega

theorem zeroCells_get {z : Value} {n k i j : Nat} {v : Value} (hz : z.cells.size = k) (hj : j < k) (h : (Builtin.zeroCells z.cells n).toList[i * k + j]? = some v) : z.cells[j]? = some v := by
  rw [Array.getElem?_toList] at h
  simp only [Builtin.zeroCells, Array.getElem?_map, Option.map_eq_some_iff] at h
  obtain ⟨q, hq, rfl⟩ := h
  have hlt : i * k + j < n * z.cells.size := by
    rcases Nat.lt_or_ge (i * k + j) (n * z.cells.size) with h | h
    · exact h
    · rw [Array.getElem?_eq_none (by simpa using h)] at hq; cases hq
  rw [Array.getElem?_range, if_pos hlt] at hq
  cases hq
  have e : (i * k + j) % z.cells.size = j := by rw [hz, Nat.mul_comm, Nat.mul_add_mod, Nat.mod_eq_of_lt hj]
  rw [e]
  have : j < z.cells.size := by rw [hz]; exact hj
  rw [getElem!_pos z.cells j this]
  simp [this]

theorem s_clear (hS : TysOk P S) {dst type pos after guard} (args : Array Operand) (argTypes : Array TypeId) : Sound P S ⟨dst, .call { callee := .builtin .clear, args := args, argTypes := argTypes }, type, pos, after, guard⟩ := by
  refine ⟨?_⟩
  intro w0 A0 N L A T B a w v ups T1 B1 T2 K Q oc dr hoc hI ho hu hp hK
  simp only [eff] at ho
  split at ho
  · rename_i vx t tr hargs htys
    obtain ⟨l⟩ := args
    match l, hargs with
    | [x], hargs =>
      simp only [List.map_cons, List.map_nil, List.cons.injEq, and_true] at hargs
      have hx := ev_rv hI x
      rw [hargs] at hx
      have h0 : argTypes[0]? = some t := by rw [← Array.getElem?_toList, htys]; rfl
      unfold clearE at ho
      split at ho
      · rename_i b sz0 lo hi _h0
        split at ho
        · rename_i et sz es ti hbx hti
          have ht := hS _ _ hti
          split at ho
          · rename_i e hu1
            have htu : P.underlying t = some (.slice e) := by rw [ht.und, hu1]
            split at ho
            · rename_i te hte
              have hte := hS _ _ hte
              split at ho
              · rename_i z hz hsz hsz0
                have hsz0 := Nat.eq_of_beq_eq_true hsz0
                subst sz0
                have hsz := Nat.eq_of_beq_eq_true hsz
                cases ho with
                | need h1 ho =>
                  cases ho
                  obtain ⟨rfl, rfl, _⟩ := upsOne hu (by rw [hbx]; simp)
                  obtain ⟨g, cap, hg, hv⟩ := rv_view hx
                  obtain ⟨hfl, i, zv, z1, z2, z3, z4, z5, z6⟩ := zeroD hte hz (w := w) (A := A)
                  obtain ⟨zv', hzv, hzr⟩ := zeroV hte hz (w := w) (A := A)
                  have ezv : zv' = zv := by
                    have := hzv w
                    simp only [zeroValue, typeInfo, Sem.run_bind] at this
                    simp [z1, z2] at this
                    exact this.symm
                  subst ezv
                  have hcs : zv'.cells.size = sz := z4.trans hsz
                  have hvl : (Builtin.zeroCells zv'.cells (hi - lo)).toList.length = (List.replicate (hi - lo) z).length * sz := by
                    rw [Array.length_toList, size_zeroCells, hcs, List.length_replicate]
                  obtain ⟨C, k1, k2, k3, k4⟩ := rowSplice (lo := lo) (nw := List.replicate (hi - lo) z) (vs := (Builtin.zeroCells zv'.cells (hi - lo)).toList) hI hbx (by simp; omega) (by simp; omega) hvl
                    (fun i e he => by
                      have := List.eq_of_mem_replicate (List.mem_of_getElem? he)
                      subst this
                      exact ⟨z5.trans hsz, hfl⟩)
                    (fun i e j c v he hc hv' => by
                      have := List.eq_of_mem_replicate (List.mem_of_getElem? he)
                      subst this
                      have hj : j < sz := by rw [← hsz, ← z5]; exact lt_of_get hc
                      exact z6 j c v hc (zeroCells_get hcs hj hv'))
                  rw [hg] at k2
                  cases k2
                  rw [List.length_replicate, show lo + (hi - lo) = hi by omega] at k4
                  have hone : ∀ v ∈ (Builtin.zeroCells zv'.cells (hi - lo)).toList, v.oneCell' = true := by
                    intro v hv'
                    obtain ⟨q, hq⟩ := List.getElem?_of_mem hv'
                    have hq' := lt_of_get hq
                    rw [hvl] at hq'
                    have hpos : 0 < sz := by
                      rcases Nat.eq_zero_or_pos sz with h | h
                      · rw [h, Nat.mul_zero] at hq'; omega
                      · exact h
                    have hm : q % sz < sz := Nat.mod_lt _ hpos
                    have e : q / sz * sz + q % sz = q := Nat.div_add_mod' q sz
                    rw [← e] at hq
                    have h2 := zeroCells_get hcs hm hq
                    have hc : z.cells[q % sz]? = some z.cells[q % sz] := List.getElem?_eq_getElem (by rw [z5, hsz]; exact hm)
                    exact (z6 _ _ _ hc h2).oneV (flat_one hfl _ (List.mem_of_getElem? hc))
                  have hst := run_storeCells_at P (L.ι b) (lo * sz) et (Builtin.zeroCells zv'.cells (hi - lo)).toList 0 C w k1
                  refine zarr (u := .tuple #[]) ?_ (hK _ _ _ _ (fin k4 (.d (.tup rfl fun j c u hc => by simp at hc)) hp))
                  have hst' := hst (by simpa using k3) hone
                  obtain ⟨m, hm⟩ : ∃ m, hi - lo = m + 1 := ⟨hi - lo - 1, by omega⟩
                  rw [Nat.add_zero] at hst'
                  refine run_call_builtin (f := Builtin.clear_) (fun _ _ => rfl) ?_
                  rw [hm] at hst' hv ⊢
                  simp [Builtin.clear_, h0, hv, run_underlying htu, hzv, hst']
              · cases ho
            · cases ho
          · cases ho
        · cases ho
      · cases ho
  · cases ho

theorem srcV_out {sz : Nat} {x : AV} {u : Value} {k : List D → Res} {v : AV} {ups} (hI : Inv w0 A0 N L A T B a w) (hx : RV L w A x u) (ho : Out P oc (srcV B sz x k) v ups) :
    ∃ es, Out P oc (k es) v ups ∧ Src w A sz es u := by
  unfold srcV at ho
  split at ho
  · exact srcK_out (k := k) hI hx (by simpa [srcK] using ho)
  · exact ⟨[], ho, by simp, .inl ⟨rfl, none, 0, rv_nil hx⟩⟩
  · exact srcK_out (k := k) hI hx (by simpa [srcK] using ho)
  · rename_i b sz2 lo hi
    split at ho
    · rename_i et sz' es fz hbx
      split at ho
      · rename_i hs hs2
        have hs := Nat.eq_of_beq_eq_true hs
        have hs2 := Nat.eq_of_beq_eq_true hs2
        subst hs; subst hs2
        cases ho with
        | need h1 ho =>
          obtain ⟨g, cap, hg, hv⟩ := rv_view hx
          obtain ⟨xs, ⟨hl, hr⟩, h2, h3, h4, h5⟩ := hI.bxs b _ hbx
          have hgι := h4 g hg
          subst hgι
          have get : ∀ (i : Nat) c, ((es.take hi).drop lo)[i]? = some c → es[lo + i]? = some c := by
            intro i c hc
            rw [List.getElem?_drop, List.getElem?_take] at hc
            split at hc
            · exact hc
            · cases hc
          have hlen : ((es.take hi).drop lo).length = hi - lo := by rw [List.length_drop, List.length_take]; omega
          refine ⟨_, ho, fun i e he => h2 _ e (get i e he), .inr ⟨L.ι b, lo * sz2, cap, by rw [hlen]; exact hv, fun i e j c he hc => ?_⟩⟩
          obtain ⟨_, _, _, _, _, _, _, _, g7⟩ := row_cells hI hbx (get i e he)
          obtain ⟨u, q1, q2⟩ := g7 j c hc
          refine ⟨u, ?_, q2⟩
          rw [← q1, Nat.add_mul]
      · cases ho
    · cases ho
  · cases ho

theorem run_copy_own {ats : Array TypeId} {dT ty e : TypeId} {sz : Nat} (h0 : ats[0]? = some dT) (hu : P.underlying dT = some (.slice e)) (hs : ∀ w, (sizeOf e).run P w = .ok sz w) (g o dLen dCap : Nat) (p : Addr) (sLen sCap : Nat) (cur : Array Value) (t : TypeId) (cs : List Value)
    (hg : w.heap[g]? = some (.cells cur t (0, 0))) (hn : cs.length = min sLen dLen * sz) (hsrc : ∀ (j : Nat) v, cs[j]? = some v → w.cell? (p.add j) = some v) (hfit : o + cs.length ≤ cur.size) (h1 : ∀ v ∈ cs, v.oneCell' = true) :
    (Builtin.copy_ ats ty #[.slice (some ⟨g, o, none⟩) dLen dCap, .slice (some p) sLen sCap]).run P w =
      .ok (goInt (min sLen dLen : Nat)) (w.setRow g (cur.toList.take o ++ cs ++ cur.toList.drop (o + cs.length)).toArray) := by
  have hl := run_loadCells_list (P := P) w p cs hsrc
  have hst := run_storeCells_at P g o t cs 0 cur w hg (by simpa using hfit) h1
  have hn' : cs.length = Nat.min sLen dLen * sz := hn
  simp [Builtin.copy_, h0, run_underlying hu, Builtin.lenOf, Builtin.firstCells, hs, ← hn', hl, hst]

theorem run_copy_zero {ats : Array TypeId} {dT ty e : TypeId} {sz : Nat} (h0 : ats[0]? = some dT) (hu : P.underlying dT = some (.slice e)) (hs : ∀ w, (sizeOf e).run P w = .ok sz w) (d s : Option Addr) (dLen dCap sLen sCap : Nat) (h : min sLen dLen = 0) :
    (Builtin.copy_ ats ty #[.slice d dLen dCap, .slice s sLen sCap]).run P w = .ok (goInt 0) w := by
  have h' : Nat.min sLen dLen = 0 := h
  cases d <;> cases s <;> simp [Builtin.copy_, h0, run_underlying hu, Builtin.lenOf, Builtin.firstCells, hs, h', loadCells, loadCellsFrom, storeCells]

theorem dstV_out {b et sz lo hi : Nat} {es : List D} {x : AV} {u : Value} (hI : Inv w0 A0 N L A T B a w) (hx : RV L w A x u) (h : dstV B x = some (b, et, sz, es, lo, hi)) :
    B b = some (.row et sz es false) ∧ ∃ p cap, u = .slice p (hi - lo) cap ∧ (0 < hi - lo → p = some ⟨L.ι b, lo * sz, none⟩) := by
  unfold dstV at h
  split at h
  · rename_i b' sz0 n
    split at h
    · rename_i et' sz' es' hbx
      simp only [Option.some.injEq, Prod.mk.injEq] at h
      obtain ⟨rfl, rfl, rfl, rfl, rfl, rfl⟩ := h
      obtain ⟨xs, ⟨hl, hr⟩, h2, h3, h4, h5⟩ := hI.bxs _ _ hbx
      refine ⟨hbx, ?_⟩
      rw [rv_own hx, Nat.sub_zero]
      rcases hr with ⟨hn, h0⟩ | ⟨g, cap, cur, hv, _⟩
      · rw [hn, h0]
        exact ⟨none, 0, rfl, fun h => by omega⟩
      · rw [hv]
        refine ⟨_, cap, rfl, fun _ => ?_⟩
        have := h4 g (by rw [hv]; rfl)
        rw [this, Nat.zero_mul]
    · cases h
  · rename_i b' sz0 lo' hi'
    split at h
    · rename_i et' sz' es' hbx
      split at h
      · rename_i hs
        have hs := Nat.eq_of_beq_eq_true hs
        subst hs
        simp only [Option.some.injEq, Prod.mk.injEq] at h
        obtain ⟨rfl, rfl, rfl, rfl, rfl, rfl⟩ := h
        obtain ⟨g, cap, hg, hv⟩ := rv_view hx
        obtain ⟨xs, ⟨hl, hr⟩, h2, h3, h4, h5⟩ := hI.bxs _ _ hbx
        refine ⟨hbx, _, cap, hv, fun _ => ?_⟩
        rw [h4 g hg]
      · cases h
    · cases h
  · cases h

theorem s_copy (hS : TysOk P S) {dst type pos after guard} (args : Array Operand) (argTypes : Array TypeId) : Sound P S ⟨dst, .call { callee := .builtin .copy, args := args, argTypes := argTypes }, type, pos, after, guard⟩ := by
  refine ⟨?_⟩
  intro w0 A0 N L A T B a w v ups T1 B1 T2 K Q oc dr hoc hI ho hu hp hK
  simp only [eff] at ho
  split at ho
  · rename_i vx vy t tr hargs htys
    obtain ⟨x, y, rfl, rfl, rfl⟩ := map_two hargs
    have hx := ev_rv hI x
    have hy := ev_rv hI y
    have hat : argTypes[0]? = some t := by rw [← Array.getElem?_toList, htys]; rfl
    unfold copyE at ho
    split at ho
    · rename_i ti hti
      have ht := hS _ _ hti
      split at ho
      · rename_i e hu1
        have htu : P.underlying t = some (.slice e) := by rw [ht.und, hu1]
        split at ho
        · rename_i te hte
          have hte := hS _ _ hte
          split at ho
          · rename_i b et sz' es lo hi sz hd hsz
            split at ho
            · rename_i hs
              have hs := Nat.eq_of_beq_eq_true hs
              subst hs
              obtain ⟨new, ho, hsrc⟩ := srcV_out hI hy ho
              cases ho with
              | need h1 ho =>
                cases ho
                obtain ⟨hbx, p, cap, hv, hpv⟩ := dstV_out hI hx hd
                obtain ⟨rfl, rfl, _⟩ := upsOne hu (by rw [hbx]; simp)
                have hrun0 : ∀ w, (sizeOf e).run P w = .ok (sz + 1) w := fun w => by rw [hte.run_size, hsz]
                have hnl : (new.take (hi - lo)).length = min (hi - lo) new.length := List.length_take
                rcases Nat.eq_zero_or_pos (min (hi - lo) new.length) with h0 | hpos
                · have e0 : cpy es lo (hi - lo) new = es := by
                    have : new.take (hi - lo) = [] := List.eq_nil_of_length_eq_zero (by omega)
                    rw [cpy, this, h0, Nat.add_zero, List.append_nil, List.take_append_drop]
                  have eB : upd B b (some (.row et (sz + 1) (cpy es lo (hi - lo) new) false)) = B := by
                    funext b'
                    by_cases e : b' = b
                    · subst e; rw [upd_same, e0, hbx]
                    · exact upd_ne _ _ e
                  rw [eB] at hp hK
                  obtain ⟨p', c', hu'⟩ : ∃ p' c', a.eval y = .slice p' new.length c' := by
                    rcases hsrc.at_ with ⟨rfl, p', c', hu'⟩ | ⟨g', o', c', hu', _⟩
                    · exact ⟨p', c', hu'⟩
                    · exact ⟨_, c', hu'⟩
                  rw [h0] at hp
                  refine zarr (u := goInt 0) (run_call_builtin (f := Builtin.copy_) (fun _ _ => rfl) ?_) (hK _ _ _ _ (fin hI (.d (.int _ _)) hp))
                  simp only [List.map_toArray, List.map_cons, List.map_nil, hv, hu']
                  exact run_copy_zero hat htu hrun0 _ _ _ _ _ _ (by rw [Nat.min_comm]; exact h0)
                · rcases hsrc.at_ with ⟨rfl, _⟩ | ⟨g', o', c', hu', hcells⟩
                  · simp at hpos
                  · have get : ∀ (i : Nat) c, (new.take (hi - lo))[i]? = some c → new[i]? = some c := by
                      intro i c hc
                      rw [List.getElem?_take] at hc
                      split at hc
                      · exact hc
                      · cases hc
                    obtain ⟨cs, n1, n2, n3, n4⟩ := flatten (w := w) (A := A) (es := new.take (hi - lo)) (sz := sz + 1) (g := g') (o := o') (fun i e he => hsrc.hsz i e (get i e he)) fun i e j c he hc => hcells i e j c (get i e he) hc
                    obtain ⟨C, k1, k2, k3, k4⟩ := rowSplice (lo := lo) (nw := new.take (hi - lo)) (vs := cs) hI hbx (by omega) (by omega) n1 (fun i e he => hsrc.hsz i e (get i e he)) n4
                    rw [hnl] at k4
                    have hp0 := hpv (by omega)
                    subst hp0
                    refine zarr (u := goInt (min (hi - lo) new.length : Nat)) (run_call_builtin (f := Builtin.copy_) (fun _ _ => rfl) ?_) (hK _ _ _ _ (fin k4 (.d (.int _ _)) hp))
                    simp only [List.map_toArray, List.map_cons, List.map_nil, hv, hu']
                    rw [Nat.min_comm]
                    exact run_copy_own hat htu hrun0 _ _ _ _ _ _ _ _ _ _ k1 (by rw [n1, hnl, Nat.min_comm]) n2 k3 n3
            · cases ho
          · cases ho
        · cases ho
      · cases ho
    · cases ho
  · cases ho
end
end Go.Vm
end
