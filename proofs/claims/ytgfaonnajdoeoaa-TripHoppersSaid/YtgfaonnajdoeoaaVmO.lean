/- Each operation, eleventh part: slice literals and make. -/
import Derived.Test.YtgfaonnajdoeoaaVmN
namespace Go.Vm
open Go.RowKit (Below)
section
variable {P : Program} {S : Tys}
variable {w0 : World} {A0 : Sta} {N : Nat} {L : Lay} {A : Sta} {T : Nat → AV} {B : Nat → Option Bx} {a : Act} {w : World}

theorem frzZL_spec : ∀ {xs : List AV} {ds : List D}, eff.frzZL xs = some ds → ∀ {L : Lay} {w : World} {A : Sta}, ds.length = xs.length ∧
    ∀ (j : Nat) d u x, ds[j]? = some d → xs[j]? = some x → RV L w A x u → Rep w A d u
  | [], ds, h, L, w, A => by simp only [eff.frzZL] at h; cases h; exact ⟨rfl, by simp⟩
  | c :: cs, ds, h, L, w, A => by
    simp only [eff.frzZL] at h
    split at h
    · rename_i ds' hds
      obtain ⟨g1, g2⟩ := frzZL_spec hds (L := L) (w := w) (A := A)
      split at h
      · cases h
        refine ⟨by simp [g1], fun j d u x hd hx hr => ?_⟩
        cases j with
        | zero => simp only [List.getElem?_cons_zero, Option.some.injEq] at hd hx; subst hd; subst hx; exact rv_d hr
        | succ j => simp only [List.getElem?_cons_succ] at hd hx; exact g2 j d u x hd hx hr
      · cases h
        refine ⟨by simp [g1], fun j d u x hd hx hr => ?_⟩
        cases j with
        | zero => simp only [List.getElem?_cons_zero, Option.some.injEq] at hd hx; subst hd; subst hx; rw [rv_nil hr]; exact .slnil _ _ _
        | succ j => simp only [List.getElem?_cons_succ] at hd hx; exact g2 j d u x hd hx hr
      · cases h
    · cases h

/-- The zero element of a type, as data. -/
theorem zeroD {t : TypeId} {ti : TI} (ht : TyOk P t ti) {z : D} (hz : eff.frzZero ti = some z) (hone : z.flat = true) {w : World} {A : Sta} :
    ∃ i v, P.info? t = some i ∧ i.zero = some v ∧ i.size = ti.size ∧ v.cells.size = ti.size ∧ z.cells.length = ti.size ∧ ∀ (j : Nat) c u, z.cells[j]? = some c → v.cells[j]? = some u → Rep w A c u := by
  obtain ⟨i, v, hi, hv, hs, hcr, hcs⟩ := zero_CR (L := ⟨fun _ => 0, fun _ => undef⟩) (w := w) (A := A) ht
  unfold eff.frzZero at hz
  split at hz
  · rename_i ds hds
    obtain ⟨g1, g2⟩ := frzZL_spec hds (L := ⟨fun _ => 0, fun _ => undef⟩) (w := w) (A := A)
    have hall : ∀ (j : Nat) c u, ds[j]? = some c → v.cells[j]? = some u → Rep w A c u := by
      intro j c u hc hu
      have hlt := lt_of_get hc
      rw [g1] at hlt
      have hx : ti.zero[j]? = some ti.zero[j] := List.getElem?_eq_getElem hlt
      exact g2 j c u _ hc hx (hcr.2 j _ u hx hu)
    have hlen : ds.length = ti.size := by rw [g1, ht.zlen]
    refine ⟨i, v, hi, hv, hs, hcs, ?_⟩
    unfold elemD at hz
    split at hz
    · cases hz
      exact ⟨hlen, hall⟩
    · split at hz
      · rename_i x
        split at hz
        · rename_i h1
          cases hz
          have hx : z.cells = [z] := by cases z <;> first | rfl | cases h1
          rw [hx]
          exact ⟨hlen, hall⟩
        · cases hz
      · cases hz
  · cases hz

/-- A new row: where its elements stand. -/
def ER (w : World) (A : Sta) (sz : Nat) (es : List D) (C : Array Value) : Prop :=
  C.size = es.length * sz ∧ (∀ (i : Nat) e, es[i]? = some e → e.cells.length = sz ∧ e.flat = true) ∧
    ∀ (i : Nat) e (j : Nat) c v, es[i]? = some e → e.cells[j]? = some c → C[i * sz + j]? = some v → Rep w A c v

/-- A box for a new row. -/
theorem Inv.newRow (h : Inv w0 A0 N L A T B a w) {t et sz : Nat} {es : List D} {C : Array Value} (hn : B t = none) (hE : ER w A sz es C) (hmax : es.length ≤ maxLen) :
    ∃ L', L'.hd t = .slice (some ⟨w.heap.size, 0, none⟩) es.length es.length ∧ Inv w0 A0 N L' A T (upd B t (some (.row et sz es false))) a (w.alloc (.cells C et)) := by
  refine ⟨⟨upd L.ι t w.heap.size, upd L.hd t (.slice (some ⟨w.heap.size, 0, none⟩) es.length es.length)⟩, upd_same _ _ _,
    h.adopt hn rfl rfl rfl (by simp) (fun k hk _ => heap_old w _ hk) (fun o ho => absurd (h.Aok _ o ho) (by omega)) ?_ (fun _ => ⟨h.below.size, by simp⟩) (fun b' x' hx' hk => ?_) (fun b' hb' => (by cases hb'))⟩
  · refine ⟨C.toList, ⟨by simpa using hE.1, .inr ⟨w.heap.size, es.length, C, upd_same _ _ _, h.below.size, heap_new w _, Nat.le_refl _, hmax, hE.1, ?_⟩⟩, hE.2.1, fun i e j c v he hc hv => ?_, fun g hg => ?_, fun _ o ho => ?_⟩
    · exact List.take_of_length_le (by rw [Array.length_toList, hE.1]; exact Nat.le_refl _)
    · refine (hE.2.2 i e j c v he hc (by simpa using hv)).frame (fun _ _ h => h) fun g o hg => ?_
      exact World.cell?_of_block (w := w) (heap_old w _ (h.Aok g o hg))
    · have hg' : (upd L.hd t (.slice (some ⟨w.heap.size, 0, none⟩) es.length es.length) t).ownBlock = some g := hg
      rw [upd_same] at hg'
      simp only [Value.ownBlock, Option.some.injEq] at hg'
      rw [← hg']
      exact (upd_same _ _ _).symm
    · have ho' : A (upd L.ι t w.heap.size t) o := ho
      rw [upd_same] at ho'
      exact absurd (h.Aok _ o ho') (by omega)
  · have := (h.lo b' x' hx' hk).2; omega

theorem upsNew {dst : Option Nat} {t : Nat} {x : Bx} {T1 : Nat → AV} {B1 : Nat → Option Bx} (hd : dst = some t) (h : UpsR dst [(t, some x)] T B T1 B1) : T1 = T ∧ B t = none ∧ B1 = upd B t (some x) := by
  rcases upsKillNew (kill := []) hd h (.inl rfl) with ⟨_, h1, h2, h3⟩ | ⟨b, hb, _⟩
  · exact ⟨h1, h2, h3⟩
  · cases hb

theorem ER.rep {sz n : Nat} {z : D} {Z C : Array Value} (hz : z.flat = true) (hl : z.cells.length = sz) (hr : ∀ (j : Nat) c u, z.cells[j]? = some c → Z[j]? = some u → Rep w A c u)
    (hC : C.size = n * sz) (hCj : ∀ k, k < n * sz → C[k]? = Z[k % sz]?) : ER w A sz (List.replicate n z) C := by
  have hrep : ∀ (i : Nat) e, (List.replicate n z)[i]? = some e → i < n ∧ e = z := by
    intro i e he
    have hlt := lt_of_get he
    rw [List.length_replicate] at hlt
    rw [List.getElem?_replicate, if_pos hlt] at he
    cases he
    exact ⟨hlt, rfl⟩
  refine ⟨by simpa using hC, fun i e he => ?_, fun i e j c v he hc hv => ?_⟩
  · obtain ⟨_, rfl⟩ := hrep i e he; exact ⟨hl, hz⟩
  · obtain ⟨hi, rfl⟩ := hrep i e he
    have hj : j < sz := by rw [← hl]; exact lt_of_get hc
    have : (i + 1) * sz ≤ n * sz := Nat.mul_le_mul_right _ hi
    rw [Nat.add_mul] at this
    rw [hCj _ (by omega)] at hv
    have hm : (i * sz + j) % sz = j := by rw [Nat.mul_comm, Nat.mul_add_mod, Nat.mod_eq_of_lt hj]
    rw [hm] at hv
    exact hr j c v hc hv

theorem madeCells_get {z : Array Value} {n k : Nat} (hz : 0 < z.size) (hk : k < n) : (madeCells z n)[k]? = z[k % z.size]? := by
  have hlt : k % z.size < z.size := Nat.mod_lt _ hz
  simp [madeCells, hk, hlt]

theorem s_makeSlice (hS : TysOk P S) {dst type pos after guard} (t : TypeId) (n c : Operand) : Sound P S ⟨dst, .makeSlice t n c, type, pos, after, guard⟩ := by
  refine ⟨?_⟩
  intro w0 A0 N L A T B a w v ups T1 B1 T2 K Q hI ho hu hp hK
  have hn := ev_rv hI n
  have hc := ev_rv hI c
  simp only [eff] at ho
  split at ho
  · rename_i s ti nn cc ht e1 e2
    rw [e1] at hn
    rw [e2] at hc
    have hn := rv_int hn
    have hc := rv_int hc
    have ht := hS _ _ ht
    split at ho
    · rename_i e hund
      split at ho
      · rename_i te hte
        have hte := hS _ _ hte
        split at ho
        · cases ho
        · rename_i sz hsz
          have hsz : te.size = sz + 1 := hsz
          split at ho
          · rename_i z hz
            split at ho
            · rename_i hflat
              cases ho with
              | need hb ho =>
                cases ho
                obtain ⟨rfl, h0, h1, h2⟩ := hb
                obtain ⟨i, vz, g1, g2, g3, g4, g5, g6⟩ := zeroD hte hz hflat (w := w) (A := A)
                obtain ⟨i', _, q1, _, q3, _⟩ := hte.info
                rw [g1] at q1; cases q1
                rw [hsz] at g3 g4 g5
                have htu : P.underlying t = some (.slice e) := by rw [ht.und, hund]
                have hrun := run_make (P := P) w t e i vz htu g1 g2 .i64 .i64 nn nn h0 (Int.le_refl _) (by rw [q3, Int.mul_comm]; omega) (by omega)
                rw [g3] at hrun
                obtain ⟨rfl, hnone, rfl⟩ := upsNew rfl hu
                have hE : ER w A (sz + 1) (List.replicate nn.toNat z) (madeCells vz.cells (nn.toNat * (sz + 1))) := by
                  refine ER.rep hflat g5 g6 (size_madeCells _ _) fun k hk => ?_
                  rw [madeCells_get (by omega) hk, g4]
                obtain ⟨L', l1, l2⟩ := hI.newRow (et := e) hnone hE (by simp only [List.length_replicate, maxLen]; omega)
                rw [List.length_replicate] at l1
                refine zarr (by simp only [execOp, Sem.run_bind, hn, hc, hrun, Result.andThen_ok]; rfl) (hK _ _ _ _ (fin l2 ?_ hp))
                rw [← l1]
                exact .own _ _ _ (by rw [l1]; rfl)
            · cases ho
          · cases ho
      · cases ho
    · cases ho
  · cases ho

theorem fillE_out (hI : Inv w0 A0 N L A T B a w) {e : TypeId} {size : Nat} : ∀ (ps : List (Nat × Operand)) (es : List D) (us0 : List (Nat × Option Bx)) {k : List D → List (Nat × Option Bx) → Res} {v : AV} {ups},
    Out P (fillE S B e size (evA T) es ps us0 k) v ups → Frz B us0 →
    ∃ es' us, Out P (k es' us) v ups ∧ Frz B us ∧ ∀ A', (∀ g o, A g o → A' g o) → FrzOk L w us A' → FrzOk L w us0 A' ∧ ∀ C, ER w A' size es C →
      ∃ C', Instr.fill (fun i => some (i * size, size)) C (ps.map fun p => (p.1, a.eval p.2)) = some C' ∧ ER w A' size es' C' ∧ es'.length = es.length
  | [], es, us0, k, v, ups, ho, hf => by
    simp only [fillE] at ho
    exact ⟨es, us0, ho, hf, fun A' _ hok => ⟨hok, fun C hE => ⟨C, rfl, hE, rfl⟩⟩⟩
  | (i, x) :: ps, es, us0, k, v, ups, ho, hf => by
    simp only [fillE] at ho
    obtain ⟨d, f1, ho, h1, h2⟩ := frzAK_out hI (resz_rv (S := S) (t := e) (ev_rv hI x)) ho
    split at ho
    · rename_i hlen hflat
      have hlen := Nat.eq_of_beq_eq_true hlen
      split at ho
      · rename_i es1 hset
        obtain ⟨es', us, ho, g1, g2⟩ := fillE_out hI ps es1 (us0 ++ f1) ho (hf.app h1)
        refine ⟨es', us, ho, g1, fun A' hA hok => ?_⟩
        obtain ⟨k1, k2⟩ := g2 A' hA hok
        refine ⟨k1.left, fun C hE => ?_⟩
        obtain ⟨e1, e2⟩ := setL_spec _ _ _ _ hset
        simp only [List.length_singleton] at e1 e2
        have hrep := h2 A' hA k1.right
        have hcells := hrep.cells hflat
        rw [hlen] at hcells
        have hi : (i + 1) * size ≤ es.length * size := Nat.mul_le_mul_right _ (by omega)
        rw [Nat.add_mul, Nat.one_mul] at hi
        have hfit : i * size + (a.eval x).cells.size ≤ C.size := by rw [hE.1, ← hcells.1]; exact hi
        have hfitL : i * size + (a.eval x).cells.toList.length ≤ C.toList.length := by simpa using hfit
        have e3 : (a.eval x).cells.toList.length = size := by simpa using hcells.1.symm
        have hE1 : ER w A' size es1 (C.toList.take (i * size) ++ (a.eval x).cells.toList ++ C.toList.drop (i * size + (a.eval x).cells.toList.length)).toArray := by
          have hes1 : ∀ (k : Nat) y, es1[k]? = some y → (k = i ∧ y = d) ∨ (k ≠ i ∧ es[k]? = some y) := by
            intro k y hy
            rw [e1, show i + 1 = i + [d].length from rfl, spl_get' (by simpa using e2)] at hy
            split at hy
            · rename_i hin
              simp only [List.length_singleton] at hin
              have : k = i := by omega
              subst this
              simp only [Nat.sub_self, List.getElem?_cons_zero, Option.some.injEq] at hy
              exact .inl ⟨rfl, hy.symm⟩
            · rename_i hin
              simp only [List.length_singleton] at hin
              exact .inr ⟨by omega, hy⟩
          refine ⟨?_, fun k y hy => ?_, fun k y j c u hy hc hu => ?_⟩
          · simp only [List.size_toArray]
            rw [spl_len hfitL]
            have : es1.length = es.length := by rw [e1, show i + 1 = i + [d].length from rfl, spl_len (by simpa using e2)]
            rw [this]
            simpa using hE.1
          · rcases hes1 k y hy with ⟨_, rfl⟩ | ⟨_, h⟩
            · exact ⟨hlen, hflat⟩
            · exact hE.2.1 k y h
          · simp only [List.getElem?_toArray] at hu
            rw [spl_get' hfitL, e3] at hu
            rcases hes1 k y hy with ⟨rfl, rfl⟩ | ⟨hne, h⟩
            · have hj : j < size := by rw [← hlen]; exact lt_of_get hc
              rw [if_pos (by omega)] at hu
              refine hcells.2.2 j c u hc ?_
              have e4 : k * size + j - k * size = j := by omega
              rw [e4] at hu
              simpa using hu
            · have hj : j < size := by rw [← (hE.2.1 k y h).1]; exact lt_of_get hc
              rw [if_neg] at hu
              · exact hE.2.2 k y j c u h hc (by simpa using hu)
              · intro hin
                rcases Nat.lt_or_ge k i with h9 | h9
                · have : (k + 1) * size ≤ i * size := Nat.mul_le_mul_right _ h9
                  rw [Nat.add_mul] at this; omega
                · have : (i + 1) * size ≤ k * size := Nat.mul_le_mul_right _ (by omega)
                  rw [Nat.add_mul] at this; omega
        obtain ⟨C', q1, q2, q3⟩ := k2 _ hE1
        refine ⟨C', ?_, q2, ?_⟩
        · rw [List.map_cons, fill_one (off := i * size) (by rw [hcells.1]) hfit]
          exact q1
        · rw [q3, e1, show i + 1 = i + [d].length from rfl, spl_len (by simpa using e2)]
      · cases ho
    · cases ho

theorem s_buildSlice (hS : TysOk P S) {dst type pos after guard} (t : TypeId) (n : Nat) (ps : Array (Nat × Operand)) : Sound P S ⟨dst, .buildSlice t n ps, type, pos, after, guard⟩ := by
  refine ⟨?_⟩
  intro w0 A0 N L A T B a w v ups T1 B1 T2 K Q hI ho hu hp hK
  have hps : (ps.map fun (i, x) => (i, a.eval x)).toList = ps.toList.map fun p => (p.1, a.eval p.2) := by simp
  simp only [eff] at ho
  split at ho
  · rename_i s ti hd ht
    have ht := hS _ _ ht
    split at ho
    · rename_i e hund
      have htu : P.underlying t = some (.slice e) := by rw [ht.und, hund]
      split at ho
      · rename_i te hte
        have hte := hS _ _ hte
        split at ho
        · rename_i sz hsmall hsz
          have hsz : te.size = sz + 1 := hsz
          have hsmall : n * te.size ≤ 16777216 := Nat.le_of_ble_eq_true hsmall
          split at ho
          · rename_i z hz
            split at ho
            · rename_i hflat
              obtain ⟨es, us, ho, g1, g2⟩ := fillE_out hI ps.toList _ [] ho .nil
              cases ho
              obtain ⟨A', B2, k1, k2, k3, k4, k5, k6⟩ := frz_ups g1 idRows hI hu
              obtain ⟨rfl, hnone, rfl⟩ := upsNew rfl k3
              obtain ⟨_, g2⟩ := g2 A' k1 k4
              obtain ⟨i, vz, q1, q2, q3, q4, q5, q6⟩ := zeroD hte hz hflat (w := w) (A := A')
              rw [hsz] at q3 q4 q5
              have hE : ER w A' (sz + 1) (List.replicate n z) ((Array.range (n * (sz + 1))).map (vz.cells[· % vz.cells.size]!)) := by
                refine ER.rep hflat q5 q6 (by simp) fun k hk => ?_
                have := madeCells_get (z := vz.cells) (by omega) hk
                rw [q4] at this
                rw [q4]
                rw [← this]
                simp [madeCells, q4]
              obtain ⟨C, m1, m2, m3⟩ := g2 _ hE
              rw [List.length_replicate] at m3
              have hrun : (Instr.buildSlice t n (ps.map fun (i, x) => (i, a.eval x))).run P w = .ok (.slice (some ⟨w.heap.size, 0, none⟩) n n) (w.alloc (.cells C e)) := by
                rw [hsz] at hsmall
                rcases Nat.eq_zero_or_pos n with h0 | hpos
                · subst h0
                  have hx : ((Array.range (0 * (sz + 1))).map (vz.cells[· % vz.cells.size]!)) = #[] := Array.eq_empty_of_size_eq_zero (by simp)
                  rw [← hps, hx] at m1
                  have hy : ∀ f : Nat → Value, ((Array.range 0).map f) = #[] := fun f => Array.eq_empty_of_size_eq_zero (by simp)
                  rw [hps] at m1
                  simp [Instr.buildSlice, run_underlying htu, sizeOf, typeInfo, q1, q3, newRow, hy, m1]
                · exact run_buildSlice (P := P) w t e n _ C i vz htu q1 q2 (by rw [q3]; omega) (by rw [q3]; have : n * (sz + 1) ≥ 1 * 1 := Nat.mul_le_mul hpos (by omega); omega) (by rw [q3, hps]; exact m1)
              obtain ⟨L', l1, l2⟩ := k2.newRow (et := e) hnone m2 (by
                have : n * 1 ≤ n * te.size := Nat.mul_le_mul_left _ (by omega)
                simp only [maxLen]; omega)
              rw [m3] at l1
              refine zarr (by simp only [execOp, Sem.run_bind]; rw [hrun]; rfl) (hK _ _ _ _ (fin l2 ?_ hp))
              rw [← l1]
              exact .own _ _ _ (by rw [l1]; rfl)
            · cases ho
          · cases ho
        · cases ho
      · cases ho
    · cases ho
  · cases ho
end
end Go.Vm
