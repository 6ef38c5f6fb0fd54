/- Each operation, fourth part: arithmetic, addresses, indexes, slices, calls. -/
import Derived.Test.YticnipadahihhaaVmG
import Derived.Laws.IdiomStrings
namespace Go.Vm
open Go.RowKit (Below)
section
variable {P : Program} {S : Tys} {oc : Option Orc}
variable {w0 : Ent} {A0 : Sta} {N : Nat} {L : Lay} {A : Sta} {T : Nat → AV} {B : Nat → Option Bx} {a : Act} {w : World}

/-- An outcome that comes to a value, nothing written. -/
theorem outV {o : Oper} {r : Res} {v : AV} {ups} {T1 : Nat → AV} {B1 : Nat → Option Bx} {T2 : Nat → AV} {K : Act → World → Prop} {Q : Exit → Act → World → Prop}
    (hI : Inv w0 A0 N L A T B a w) (ho : Out P oc r v ups) (hu : UpsR o.dst ups T B T1 B1) (hp : PutR N o.dst v T1 B1 T2)
    (hK : ∀ L' A' a' w', Inv w0 A0 N L' A' T2 B1 a' w' → K a' w')
    (h : ups = [] ∧ ∃ u, (execOp a.eval o).run P w = .ok (.value u) w ∧ RV L w A v u) : o.wp P a w K Q := by
  obtain ⟨rfl, u, h1, h2⟩ := h
  exact pureV hI h1 h2 hu hp hK

theorem effBin_sound {op : BinOp} {t : TypeId} {x y : AV} {vx vy : Value} {v : AV} {ups} (ho : Out P oc (effBin op x y) v ups) (hx : RV L w A x vx) (hy : RV L w A y vy) :
    ups = [] ∧ ∃ u, (binOp op t vx vy).run P w = .ok u w ∧ RV L w A v u := by
  unfold effBin at ho
  split at ho
  · rename_i k a k' b
    have hx := rv_int hx
    have hy := rv_int hy
    subst hx; subst hy
    split at ho
    · rename_i hop
      have hop : op = .shr := by cases op <;> first | rfl | cases hop
      subst hop
      cases ho with
      | need hb ho =>
        cases ho
        exact ⟨rfl, _, by rw [binOp_shr, shift_shr _ _ _ _ hb.1 hb.2]; rfl, .d (.int _ _)⟩
    split at ho
    · rename_i hop
      have hop : op = .shl := by cases op <;> first | rfl | cases hop
      subst hop
      cases ho with
      | need hb ho =>
        cases ho with
        | wr hz ho =>
          cases ho
          exact ⟨rfl, _, by rw [binOp_shl, shift_shl _ _ _ _ hb.1 hb.2, ← hz]; rfl, .d (.int _ _)⟩
    split at ho
    · cases ho
    · rename_i hk
      simp only [decide_eq_true_eq] at hk
      subst hk
      have wr1 : ∀ {n : Int} {v : AV} {ups}, Out P oc (.wr k n fun z => .ok (.d (.int k z)) []) v ups → ups = [] ∧ v = .d (.int k (k.wrap n)) := by
        intro n v ups h
        cases h with | wr hz h => cases h; rw [hz]; exact ⟨rfl, rfl⟩
      cases op <;> first
        | (obtain ⟨rfl, rfl⟩ := wr1 ho; exact ⟨rfl, _, by simp [binOp, Op.intArith], .d (.int _ _)⟩)
        | (cases ho with | need hb ho => (obtain ⟨rfl, rfl⟩ := wr1 ho; exact ⟨rfl, _, by simp [binOp, Op.intDiv, hb], .d (.int _ _)⟩))
        | (cases ho with | need hb ho => (cases ho; exact ⟨rfl, _, by simp [binOp, Op.intDiv, hb], .d (.int _ _)⟩))
        | (cases ho; exact ⟨rfl, _, by simp [binOp, Op.intCmp], .d (.bool _)⟩)
        | (cases ho; exact ⟨rfl, .int k (andZ k a b), (by rw [binOp_and]; rfl), .d (.int _ _)⟩)
        | (cases ho; done)
  · rename_i s1 s2
    have hx := rv_str hx
    have hy := rv_str hy
    subst hx; subst hy
    cases op <;> first
      | (cases ho; exact ⟨rfl, _, by simp [binOp, Op.stringOp], .d (.bool _)⟩)
      | (cases ho with | need hb ho => (cases ho; refine ⟨rfl, _, ?_, .d (.str _)⟩; simp only [binOp, Op.stringOp]; rw [if_neg]; · rfl
                                        · simp only [IntKind.max, IntKind.bits, IntKind.signed]; simp at hb ⊢; omega))
      | (cases ho; done)
  · cases ho

theorem run_eqGuard_int {op : BinOp} {t : TypeId} {x y : Operand} {k k' : IntKind} {n m : Int} : (eqGuard op t x y (.int k n) (.int k' m)).run P w = .ok () w := by cases op <;> rfl
theorem run_eqGuard_str {op : BinOp} {t : TypeId} {x y : Operand} {n m : ByteArray} : (eqGuard op t x y (.string n) (.string m)).run P w = .ok () w := by cases op <;> rfl
theorem run_eqGuard_bool {op : BinOp} {t : TypeId} {x y : Operand} {n m : Bool} : (eqGuard op t x y (.bool n) (.bool m)).run P w = .ok () w := by cases op <;> rfl

theorem s_unOp {dst type pos after guard} (op : UnOp) (t : TypeId) (x : Operand) : Sound P S ⟨dst, .unOp op t x, type, pos, after, guard⟩ := by
  refine ⟨?_⟩
  intro w0 A0 N L A T B a w v ups T1 B1 T2 K Q oc dr hoc hI ho hu hp hK
  have hx := ev_rv hI x
  simp only [eff] at ho
  refine outV hI ho hu hp hK ?_
  split at ho
  · rename_i b hb
    rw [hb] at hx
    have hx := rv_bool hx
    cases ho
    exact ⟨rfl, _, by simp [execOp, Op.unary, hx], .d (.bool _)⟩
  · rename_i k n hb
    rw [hb] at hx
    have hx := rv_int hx
    cases ho with
    | wr hz ho =>
      cases ho
      refine ⟨rfl, _, by simp only [execOp, Op.unary, hx, Op.intArith]; rfl, ?_⟩
      rw [hz]
      exact .d (.int _ _)
  · cases ho

theorem isBytes_spec (hS : TysOk P S) {s e : TypeId} (h : isBytes S s e = true) : P.underlying s = some .string ∧ P.underlying e = some (.int .u8) := by
  unfold isBytes at h
  split at h
  · rename_i x y hx hy
    split at h
    · rename_i h1 h2
      exact ⟨by rw [(hS _ _ hx).und, h1], by rw [(hS _ _ hy).und, h2]⟩
    · cases h
  · cases h
theorem bytesD_len (b : ByteArray) : (bytesD b).length = b.size := by simp [bytesD]
theorem bytes_cast (hS : TysOk P S) {dst type pos after guard} {s t e : TypeId} {x : Operand} {b : ByteArray} {T1 : Nat → AV} {B1 : Nat → Option Bx} {T2 : Nat → AV} {K : Act → World → Prop} {Q : Exit → Act → World → Prop}
    (hI : Inv w0 A0 N L A T B a w) (ht : P.underlying t = some (.slice e)) (hby : isBytes S s e = true) (hx : a.eval x = .string b)
    (hu : UpsR dst [] T B T1 B1) (hp : PutR N dst (.d (.sl 1 (bytesD b))) T1 B1 T2) (hK : ∀ L' A' a' w', Inv w0 A0 N L' A' T2 B1 a' w' → K a' w') :
    (⟨dst, .convert s t x, type, pos, after, guard⟩ : Oper).wp P a w K Q := by
  cases hu
  obtain ⟨hs, he⟩ := isBytes_spec hS hby
  have hrun := run_bytes_of_string (P := P) w s t e b hs ht he
  have hle := grownCap_ge w b.size 0 e
  generalize grownCap w b.size 0 e = cap at hrun hle
  have hsize : ∀ o : Obj, (w.drew.alloc o).heap.size = w.heap.size + 1 := fun o => by
    show (w.heap.push o).size = _
    simp
  have hget : ∀ o : Obj, (w.drew.alloc o).heap[w.heap.size]? = some o := fun o => by
    show (w.heap.push o)[w.heap.size]? = _
    simp
  generalize hob : Obj.cells (bytesRow b cap) e ((bytesRow b cap).size, (bytesRow b cap).size + 1) = ob at hrun
  have hcell : ∀ j, (w.drew.alloc ob).cell? ⟨w.heap.size, j, none⟩ = (bytesRow b cap)[j]? := fun j => by
    rw [cell_of_row _ w.heap.size j (bytesRow b cap) e _ (by rw [hget, ← hob])]
  have hI' := hI.world (w' := w.drew.alloc ob) (A' := fun g o => A g o ∨ (g = w.heap.size ∧ o < b.size)) ⟨(Below.refl _ w).drew.alloc (Nat.le_refl _) _, Nat.le_succ _⟩ (fun _ _ h => .inl h)
    (fun g o h => by
      rw [hsize]
      rcases h with h | ⟨rfl, _⟩
      · have := hI.Aok g o h; omega
      · omega)
    (fun g o h => by
      rcases h with h | ⟨rfl, _⟩
      · exact .inl h
      · exact .inr (Nat.le_refl _))
  refine zarr (by simp only [execOp, Sem.run_bind, hx, hrun, Result.andThen_ok]; rfl) (hK _ _ _ _ (fin hI' ?_ hp))
  have hl := bytesD_len b
  have key : ∀ (i : Nat) y, (bytesD b)[i]? = some y → i < b.size ∧ ∃ z : Int, y = .int .u8 z ∧ (bytesRow b cap)[i]? = some (.int .u8 z) := by
    intro i y hy
    have hi : i < b.size := by
      rcases Nat.lt_or_ge i (bytesD b).length with h | h
      · omega
      · rw [List.getElem?_eq_none h] at hy; cases hy
    refine ⟨hi, _, ?_, bytesRow_at b cap i hi⟩
    simp only [bytesD, List.getElem?_map, Option.map_eq_some_iff] at hy
    obtain ⟨c, hc, rfl⟩ := hy
    rw [Array.getElem?_toList, Array.getElem?_eq_getElem hi] at hc
    cases hc; rfl
  rw [← hl] at hle ⊢
  refine .d (.sl w.heap.size 0 (fun i _ => ((bytesRow b cap)[i]?).getD undef) hle (fun i y hy => ?_) (fun i y j c hy hc => ?_) (fun i y j c hy hc => ?_))
  · obtain ⟨_, z, rfl, _⟩ := key i y hy; exact ⟨rfl, rfl⟩
  · obtain ⟨h1, z, rfl, h2⟩ := key i y hy
    have hj : j = 0 := by
      cases j with
      | zero => rfl
      | succ j => simp [D.cells] at hc
    subst hj
    have e1 : 0 + i * 1 + 0 = i := by omega
    rw [e1, hcell, h2]
    exact ⟨.inr ⟨rfl, by rw [hl]; exact h1⟩, rfl⟩
  · obtain ⟨h1, z, rfl, h2⟩ := key i y hy
    have hj : j = 0 := by
      cases j with
      | zero => rfl
      | succ j => simp [D.cells] at hc
    subst hj
    simp only [D.cells, List.getElem?_cons_zero, Option.some.injEq] at hc
    subst hc
    rw [h2]
    exact .int _ _

theorem s_convert (hS : TysOk P S) {dst type pos after guard} (s t : TypeId) (x : Operand) : Sound P S ⟨dst, .convert s t x, type, pos, after, guard⟩ := by
  refine ⟨?_⟩
  intro w0 A0 N L A T B a w v ups T1 B1 T2 K Q oc dr hoc hI ho hu hp hK
  have hx := ev_rv hI x
  simp only [eff] at ho
  split at ho
  · refine outV hI ho hu hp hK ?_
    rename_i ts tt k n hs ht hb
    have hs := hS _ _ hs
    have ht := hS _ _ ht
    rw [hb] at hx
    have hx := rv_int hx
    split at ho
    · rename_i k' hk
      cases ho with
      | wr hz ho =>
        cases ho
        refine ⟨rfl, .int k' (k'.wrap n), ?_, by rw [hz]; exact .d (.int _ _)⟩
        simp only [execOp, convert, Sem.run_bind, hs.run_und, ht.run_und, hk, hx, Result.andThen_ok]
        rfl
    · cases ho
  · rename_i ts tt b hs ht hb
    have hs := hS _ _ hs
    have ht := hS _ _ ht
    rw [hb] at hx
    have hx := rv_str hx
    split at ho
    · rename_i hk
      refine outV hI ho hu hp hK ?_
      cases ho
      refine ⟨rfl, .string b, ?_, .d (.str _)⟩
      simp only [execOp, convert, Sem.run_bind, hs.run_und, ht.run_und, hk, hx, Result.andThen_ok]
      rfl
    · rename_i e hk
      split at ho
      · rename_i hby
        cases ho
        exact bytes_cast hS hI (by rw [ht.und, hk]) hby hx hu hp hK
      · cases ho
    · cases ho
  · cases ho

theorem fieldOf_spec (hS : TysOk P S) {t : TypeId} {f fo ft n : Nat} (h : fieldOf S t f = some (fo, ft, n)) :
    ∃ fs fd, P.underlying t = some (.struct fs) ∧ fs[f]? = some fd ∧ fd.offset = fo ∧ fd.type = ft ∧ n ≠ 0 ∧ (∀ w, (sizeOf ft).run P w = .ok n w) ∧ ∃ tf, S ft = some tf ∧ tf.size = n := by
  unfold fieldOf at h
  split at h
  · rename_i ti ht
    split at h
    · rename_i fs hu
      split at h
      · rename_i nm ft' fo' e tg pk bo hf
        split at h
        · rename_i und size bytes zero htf
          split at h
          · cases h
          · rename_i n'
            simp only [Option.some.injEq, Prod.mk.injEq] at h
            obtain ⟨rfl, rfl, rfl⟩ := h
            refine ⟨fs, _, by rw [(hS _ _ ht).und, hu], by simpa using hf, rfl, rfl, by simp, fun w => (hS _ _ htf).run_size w, _, htf, rfl⟩
        · cases h
      · cases h
    · cases h
  · cases h

theorem run_fieldAt_ok (hS : TysOk P S) {t : TypeId} {f fo ft n : Nat} (h : fieldOf S t f = some (fo, ft, n)) (g o : Nat) :
    (Instr.fieldAt t (.pointer (some ⟨g, o, none⟩)) f).run P w = .ok (.pointer (some ⟨g, o + fo, none⟩)) w := by
  obtain ⟨fs, fd, h1, h2, h3, h4, h5, h6, _⟩ := fieldOf_spec hS h
  have : (⟨g, o, none⟩ : Addr).add fd.offset = ⟨g, o + fo, none⟩ := by rw [h3]; exact Addr.add_mid g o fo
  simp [Instr.fieldAt, run_underlying h1, h2, Instr.sureAddr, fieldPlace, h4, h6, h5, this]

theorem s_fieldAddr (hS : TysOk P S) {dst type pos after guard} (t : TypeId) (x : Operand) (f : Nat) : Sound P S ⟨dst, .fieldAddr t x f, type, pos, after, guard⟩ := by
  refine ⟨?_⟩
  intro w0 A0 N L A T B a w v ups T1 B1 T2 K Q oc dr hoc hI ho hu hp hK
  have hx := ev_rv hI x
  simp only [eff] at ho
  refine outV hI ho hu hp hK ?_
  split at ho
  · rename_i fo ft n hf
    split at ho
    · rename_i b off hb
      rw [hb] at hx
      have hx := rv_ptr hx
      cases ho
      exact ⟨rfl, _, by simp [execOp, hx, run_fieldAt_ok hS hf], .ptr _ _⟩
    · rename_i b sz i off hb
      rw [hb] at hx
      have hx := rv_eptr hx
      cases ho
      refine ⟨rfl, .pointer (some ⟨L.ι b, i * sz + (off + fo), none⟩), ?_, .eptr _ _ _ _⟩
      rw [← Nat.add_assoc]
      simp [execOp, hx, run_fieldAt_ok hS hf]
    · rename_i cs off hb
      rw [hb] at hx
      obtain ⟨g, o, u, hv, h1, hc, hr⟩ := rv_ref hx
      cases ho
      refine ⟨rfl, .pointer (some ⟨g, o + (off + fo), none⟩), ?_, .d (.ref g o u h1 hc hr)⟩
      rw [← Nat.add_assoc]
      simp [execOp, hv, run_fieldAt_ok hS hf]
    · cases ho
  · cases ho

theorem run_part_one {t : TypeId} {ti : TI} (ht : TyOk P t ti) (hg : isAggT ti.und = false) {cs : Array Value} {off : Nat} {u : Value} (h : cs[off]? = some u) : (part t cs off).run P w = .ok u w := by
  simp [part, ht.run_isAgg, hg, h]
theorem run_part_agg {t : TypeId} {ti : TI} (ht : TyOk P t ti) (hg : isAggT ti.und = true) {cs : Array Value} {off : Nat} : (part t cs off).run P w = .ok (.agg (cs.extract off (off + ti.size))) w := by
  simp [part, ht.run_isAgg, hg, ht.run_size]

theorem rv_agg {cs : List D} {u : Value} (h : RV L w A (.d (.agg cs)) u) : ∃ vs, u = .agg vs ∧ cs.length = vs.size ∧ (∀ c ∈ cs, c.one = true) ∧ ∀ (j : Nat) c v, cs[j]? = some c → vs[j]? = some v → Rep w A c v := by
  cases rv_d h with
  | agg hl h1 hr => exact ⟨_, rfl, hl, h1, hr⟩

theorem s_field (hS : TysOk P S) {dst type pos after guard} (t : TypeId) (x : Operand) (f : Nat) : Sound P S ⟨dst, .field t x f, type, pos, after, guard⟩ := by
  refine ⟨?_⟩
  intro w0 A0 N L A T B a w v ups T1 B1 T2 K Q oc dr hoc hI ho hu hp hK
  have hx := ev_rv hI x
  simp only [eff] at ho
  refine outV hI ho hu hp hK ?_
  split at ho
  · rename_i fo ft n hf
    obtain ⟨fs, fd, g1, g2, g3, g4, g5, g6, tf', g7, g8⟩ := fieldOf_spec hS hf
    split at ho
    · rename_i tf htf
      rw [g7] at htf
      cases htf
      have htf := hS _ _ g7
      split at ho
      · rename_i cs hb hg
        rw [hb] at hx
        obtain ⟨vs, hv, hl, h1, hr⟩ := rv_agg hx
        split at ho
        · rename_i c hc
          cases ho
          obtain ⟨u, hu1⟩ := arr_get (C := vs) (j := fo) (by rw [← hl]; exact lt_of_get hc)
          refine ⟨rfl, u, ?_, .d (hr fo c u hc hu1)⟩
          simp [execOp, Instr.field, run_underlying g1, g2, hv, asAgg, g3, g4, run_part_one htf hg hu1]
        · cases ho
      · rename_i cs hb hg
        rw [hb] at hx
        obtain ⟨vs, hv, hl, h1, hr⟩ := rv_agg hx
        split at ho
        · rename_i l hsub
          cases ho
          obtain ⟨e1, e2, e3⟩ := subL_spec _ _ _ _ hsub
          rw [if_neg g5] at e2
          refine ⟨rfl, .agg (vs.extract fo (fo + n)), ?_, .d (.agg ?_ (fun c hc => ?_) fun j c u hc hu => ?_)⟩
          · simp [execOp, Instr.field, run_underlying g1, g2, hv, asAgg, g3, g4, run_part_agg htf hg, g8]
          · simp [e1]; omega
          · obtain ⟨j, hj⟩ := List.getElem?_of_mem hc
            have hlt := lt_of_get hj
            rw [e3 j (by omega)] at hj
            exact h1 c (List.mem_of_getElem? hj)
          · have hlt := lt_of_get hc
            rw [e3 j (by omega)] at hc
            refine hr (fo + j) c u hc ?_
            rw [Array.getElem?_extract] at hu
            split at hu
            · exact hu
            · cases hu
        · cases ho
      · rename_i cs hb hg
        rw [hb] at hx
        generalize hv : a.eval x = ux at hx
        cases hx with
        | agg hl h1 hr =>
          rename_i vs
          split at ho
          · rename_i c hc
            cases ho
            obtain ⟨u, hu1⟩ := arr_get (C := vs) (j := fo) (by rw [← hl]; exact lt_of_get hc)
            refine ⟨rfl, u, ?_, hr fo _ u hc hu1⟩
            simp [execOp, Instr.field, run_underlying g1, g2, hv, asAgg, g3, g4, run_part_one htf hg hu1]
          · cases ho
      · cases ho
    · cases ho
  · cases ho

theorem rv_tup {cs : List D} {u : Value} (h : RV L w A (.d (.tup cs)) u) : ∃ vs, u = .tuple vs ∧ cs.length = vs.size ∧ ∀ (j : Nat) c v, cs[j]? = some c → vs[j]? = some v → Rep w A c v := by
  cases rv_d h with
  | tup hl hr => exact ⟨_, rfl, hl, hr⟩
theorem s_extract {dst type pos after guard} (x : Operand) (i : Nat) : Sound P S ⟨dst, .extract x i, type, pos, after, guard⟩ := by
  refine ⟨?_⟩
  intro w0 A0 N L A T B a w v ups T1 B1 T2 K Q oc dr hoc hI ho hu hp hK
  have hx := ev_rv hI x
  simp only [eff] at ho
  refine outV hI ho hu hp hK ?_
  split at ho
  · rename_i cs hb
    rw [hb] at hx
    obtain ⟨vs, hv, hl, hr⟩ := rv_tup hx
    split at ho
    · rename_i c hc
      cases ho
      obtain ⟨u, hu1⟩ := arr_get (C := vs) (j := i) (by rw [← hl]; exact lt_of_get hc)
      exact ⟨rfl, u, by simp [execOp, Instr.extract, hv, hu1], .d (hr i c u hc hu1)⟩
    · cases ho
  · rename_i cs hb
    rw [hb] at hx
    generalize hv : a.eval x = u at hx
    cases hx with
    | @tup _ vs hl hr =>
      split at ho
      · rename_i c hc
        cases ho
        obtain ⟨u, hu1⟩ := arr_get (C := vs) (j := i) (by rw [← hl]; exact lt_of_get hc)
        exact ⟨rfl, u, by simp [execOp, Instr.extract, hv, hu1], hr i _ u hc hu1⟩
      · cases ho
  · cases ho

theorem rv_sl {sz : Nat} {es : List D} {u : Value} (h : RV L w A (.d (.sl sz es)) u) : (es = [] ∧ ∃ p cap, u = .slice p 0 cap) ∨
    ∃ (g o : Nat) (cap : Nat) (uu : Nat → Nat → Value), u = .slice (some ⟨g, o, none⟩) es.length cap ∧ es.length ≤ cap ∧ (∀ (i : Nat) e, es[i]? = some e → e.cells.length = sz ∧ e.flat = true) ∧
      (∀ (i : Nat) e (j : Nat) c, es[i]? = some e → e.cells[j]? = some c → A g (o + i * sz + j) ∧ w.cell? ⟨g, o + i * sz + j, none⟩ = some (uu i j)) ∧
      (∀ (i : Nat) e (j : Nat) c, es[i]? = some e → e.cells[j]? = some c → Rep w A c (uu i j)) := by
  cases rv_d h with
  | slnil _ p cap => exact .inl ⟨rfl, p, cap, rfl⟩
  | sl g o uu h1 h2 h3 h4 => exact .inr ⟨g, o, _, uu, rfl, h1, h2, h3, h4⟩
theorem sl_len {sz : Nat} {es : List D} {u : Value} (h : RV L w A (.d (.sl sz es)) u) : ∃ p cap, u = .slice p es.length cap := by
  rcases rv_sl h with ⟨rfl, p, cap, hv⟩ | ⟨g, o, cap, uu, hv, _⟩
  · exact ⟨p, cap, hv⟩
  · exact ⟨_, cap, hv⟩
theorem own_len (hI : Inv w0 A0 N L A T B a w) {b et sz : Nat} {es : List D} {fz : Bool} (hx : B b = some (.row et sz es fz)) : ∃ p cap, L.hd b = .slice p es.length cap := by
  obtain ⟨xs, ⟨hl, hr⟩, _⟩ := hI.bxs b _ hx
  rcases hr with ⟨hn, h0⟩ | ⟨g, cap, cur, hv, _⟩
  · exact ⟨none, 0, by rw [hn, h0]⟩
  · exact ⟨_, cap, hv⟩

theorem run_indexAt_sl {t e : TypeId} {size : Nat} (ht : P.underlying t = some (.slice e)) (hs : ∀ w, (sizeOf e).run P w = .ok size w) {g o len cap : Nat} {k : IntKind} {n : Int} (h : 0 ≤ n ∧ n < (len : Int)) :
    (Instr.indexAt t (.slice (some ⟨g, o, none⟩) len cap) (.int k n)).run P w = .ok (.pointer (some ⟨g, o + n.toNat * size, none⟩)) w := by
  have : (⟨g, o, none⟩ : Addr).add (n.toNat * size) = ⟨g, o + n.toNat * size, none⟩ := Addr.add_mid g o _
  simp [Instr.indexAt, asIntOf, run_underlying ht, h, hs, this]
theorem run_indexAt_arr {t e : TypeId} {len size : Nat} (ht : P.underlying t = some (.array len e)) (hs : ∀ w, (sizeOf e).run P w = .ok size w) {g o : Nat} {k : IntKind} {n : Int} (h : 0 ≤ n ∧ n < (len : Int)) :
    (Instr.indexAt t (.pointer (some ⟨g, o, none⟩)) (.int k n)).run P w = .ok (.pointer (some ⟨g, o + n.toNat * size, none⟩)) w := by
  have : (⟨g, o, none⟩ : Addr).add (n.toNat * size) = ⟨g, o + n.toNat * size, none⟩ := Addr.add_mid g o _
  simp [Instr.indexAt, asIntOf, run_underlying ht, h, hs, this, Instr.sureAddr]

theorem rv_view2 {b sz lo hi : Nat} {u : Value} (h : RV L w A (.view b sz lo hi) u) : ∃ g n C, L.hd b = .slice (some ⟨g, 0, none⟩) n C ∧ (lo < hi ∧ hi ≤ n ∧ n ≤ C) ∧ u = .slice (some ⟨g, lo * sz, none⟩) (hi - lo) (C - lo) := by
  cases h with
  | view _ _ _ _ g n C hh hb => exact ⟨g, n, C, hh, hb, rfl⟩
theorem s_indexAddr (hS : TysOk P S) {dst type pos after guard} (t : TypeId) (x i : Operand) : Sound P S ⟨dst, .indexAddr t x i, type, pos, after, guard⟩ := by
  refine ⟨?_⟩
  intro w0 A0 N L A T B a w v ups T1 B1 T2 K Q oc dr hoc hI ho hu hp hK
  have hx := ev_rv hI x
  have hi := ev_rv hI i
  simp only [eff] at ho
  refine outV hI ho hu hp hK ?_
  split at ho
  · rename_i ti k n ht hn
    have ht := hS _ _ ht
    rw [hn] at hi
    have hi := rv_int hi
    split at ho
    · rename_i e sz es hu1 hb
      rw [hb] at hx
      have htu : P.underlying t = some (.slice e) := by rw [ht.und, hu1]
      split at ho
      · rename_i te hte
        have hte := hS _ _ hte
        split at ho
        · rename_i hsz
          have hsz := Nat.eq_of_beq_eq_true hsz
          cases ho with
          | need h0 ho =>
            cases ho with
            | @pick _ _ _ el _ _ hel ho =>
              cases ho
              have hlt := lt_of_get hel
              rcases rv_sl hx with ⟨rfl, _⟩ | ⟨g, o, cap, uu, hv, h1, h2, h3, h4⟩
              · cases hel
              · refine ⟨rfl, .pointer (some ⟨g, (o + n.toNat * te.size) + 0, none⟩), ?_, .d (.ref g (o + n.toNat * te.size) (uu n.toNat) (flat_one (h2 _ _ hel).2) (fun j c hc => ?_) fun j c hc => h4 _ _ j c hel hc)⟩
                · have h5 : 0 ≤ n ∧ n < (es.length : Int) := ⟨h0, by omega⟩
                  simp [execOp, hv, hi, run_indexAt_sl htu hte.run_size h5]
                · rw [hsz]; exact h3 _ _ j c hel hc
        · cases ho
      · cases ho
    · rename_i e b sz m hu1 hb
      have hcl := ev_cl hI x
      rw [hb] at hx hcl
      have hx := rv_own hx
      have htu : P.underlying t = some (.slice e) := by rw [ht.und, hu1]
      split at ho
      · rename_i te hte
        have hte := hS _ _ hte
        split at ho
        · rename_i et sz' es fz hbx
          split at ho
          · rename_i hsz hsz'
            have hsz := Nat.eq_of_beq_eq_true hsz
            have hsz' := Nat.eq_of_beq_eq_true hsz'
            cases ho with
            | need h0 ho =>
              cases ho
              obtain ⟨xs, ⟨hl, hr⟩, _, _, h4, _⟩ := hI.bxs b _ hbx
              rcases hr with ⟨hn0, h00⟩ | ⟨g, cap, cur, hv, _⟩
              · rw [h00] at h0; omega
              · have hgι : g = L.ι b := h4 g (by rw [hv]; rfl)
                subst hgι
                refine ⟨rfl, .pointer (some ⟨L.ι b, n.toNat * sz + 0, none⟩), ?_, .eptr _ _ _ _⟩
                simp [execOp, hx, hv, hi, run_indexAt_sl htu hte.run_size h0, hsz]
          · cases ho
        · rename_i et ie vv rows hbx
          split at ho
          · rename_i hs1
            cases ho with
            | need h0 ho =>
              cases ho
              obtain ⟨xs, ⟨hl, hr⟩, h4, _⟩ := hI.bxs b _ hbx
              rcases hr with ⟨hn0, h00⟩ | ⟨g, cap, cur, hv, _⟩
              · rw [h00] at h0; omega
              · have hgι : g = L.ι b := h4 g (by rw [hv]; rfl)
                subst hgι
                refine ⟨rfl, .pointer (some ⟨L.ι b, n.toNat * 1 + 0, none⟩), ?_, .eptr _ _ _ _⟩
                simp [execOp, hx, hv, hi, run_indexAt_sl htu hte.run_size h0, hs1]
          · cases ho
        · cases ho
      · cases ho
    · rename_i e b sz lo hi' hu1 hb
      rw [hb] at hx
      obtain ⟨g, nn, C, hh, hbd, hv⟩ := rv_view2 hx
      have htu : P.underlying t = some (.slice e) := by rw [ht.und, hu1]
      split at ho
      · rename_i te hte
        have hte := hS _ _ hte
        split at ho
        · rename_i et sz' es fz hbx
          split at ho
          · rename_i hsz hsz'
            have hsz := Nat.eq_of_beq_eq_true hsz
            cases ho with
            | need h0 ho =>
              cases ho
              obtain ⟨xs, _, _, _, h4, _⟩ := hI.bxs b _ hbx
              have hgι : g = L.ι b := h4 g (by rw [hh]; rfl)
              subst hgι
              refine ⟨rfl, .pointer (some ⟨L.ι b, (lo + n.toNat) * sz + 0, none⟩), ?_, .eptr _ _ _ _⟩
              simp [execOp, hv, hi, run_indexAt_sl htu hte.run_size h0, hsz, Nat.add_mul]
          · cases ho
        · cases ho
      · cases ho
    · rename_i e b vv k hu1 hb
      rw [hb] at hx
      have hx := rv_sub hx
      have htu : P.underlying t = some (.slice e) := by rw [ht.und, hu1]
      split at ho
      · rename_i te hte
        have hte := hS _ _ hte
        split at ho
        · rename_i et ie vv' rows hbx hs1
          cases ho with
          | need hv ho =>
            subst hv
            cases ho with
            | pickR he ho =>
              cases ho with
              | need h0 ho =>
                cases ho
                obtain ⟨_, ys, k1, _, _⟩ := mat_row hI hbx he
                obtain ⟨_, _, _, h3, _⟩ := hI.bxs b _ hbx
                cases hob : (L.sub b vv k).ownBlock with
                | none => have := (ownBlock_none k1 hob).2; omega
                | some g =>
                  obtain ⟨cap, hsl, _⟩ := ownsRow_cells k1 hob
                  refine ⟨rfl, .pointer (some ⟨g, 0 + n.toNat * te.size, none⟩), ?_, ?_⟩
                  · simp [execOp, hx, hsl, hi, run_indexAt_sl htu hte.run_size h0]
                  · rw [hs1, Nat.mul_one, Nat.zero_add]
                    exact .mptr _ _ _ _ g hob (Nat.le_of_eq h3)
        · cases ho
      · cases ho
    · rename_i len e b off hu1 hb
      rw [hb] at hx
      have hx := rv_ptr hx
      have htu : P.underlying t = some (.array len e) := by rw [ht.und, hu1]
      split at ho
      · rename_i te hte
        have hte := hS _ _ hte
        split at ho
        · split at ho
          · have hs1 : te.size = 1 := by assumption
            cases ho with
            | need h0 ho =>
              cases ho
              refine ⟨rfl, .pointer (some ⟨L.ι b, 0 * 0 + n.toNat, none⟩), ?_, .sptr _ _ _ _⟩
              simp [execOp, hx, hi, run_indexAt_arr htu hte.run_size h0, hs1]
          · cases ho
        · cases ho with
          | need h0 ho =>
            cases ho
            exact ⟨rfl, _, by simp [execOp, hx, hi, run_indexAt_arr htu hte.run_size h0], .ptr _ _⟩
      · cases ho
    · rename_i len e b sz k off hu1 hb
      rw [hb] at hx
      have hx := rv_eptr hx
      have htu : P.underlying t = some (.array len e) := by rw [ht.und, hu1]
      split at ho
      · rename_i te hte
        have hte := hS _ _ hte
        split at ho
        · rename_i hs1
          cases ho with
          | need h0 ho =>
            cases ho
            refine ⟨rfl, .pointer (some ⟨L.ι b, k * sz + (off + n.toNat), none⟩), ?_, .sptr _ _ _ _⟩
            rw [← Nat.add_assoc]
            simp [execOp, hx, hi, run_indexAt_arr htu hte.run_size h0, hs1]
        · cases ho
      · cases ho
    · rename_i len e cs off hu1 hb
      rw [hb] at hx
      obtain ⟨g, o, u, hv, h1, hc, hr⟩ := rv_ref hx
      have htu : P.underlying t = some (.array len e) := by rw [ht.und, hu1]
      split at ho
      · rename_i te hte
        have hte := hS _ _ hte
        split at ho
        · rename_i hs1
          cases ho with
          | need h0 ho =>
            cases ho with
            | @pick _ _ _ el _ _ hel ho =>
              cases ho
              have hone := h1 _ (List.mem_of_getElem? hel)
              refine ⟨rfl, .pointer (some ⟨g, (o + (off + n.toNat)) + 0, none⟩), ?_, .d (.ref g (o + (off + n.toNat)) (fun _ => u (off + n.toNat)) (by simpa using hone) (fun j c hc' => ?_) fun j c hc' => ?_)⟩
              · rw [Nat.add_zero, ← Nat.add_assoc]
                simp [execOp, hv, hi, run_indexAt_arr htu hte.run_size h0, hs1]
              · cases j with
                | zero =>
                  simp only [List.getElem?_cons_zero, Option.some.injEq] at hc'
                  subst hc'
                  rw [Nat.add_zero]
                  exact hc _ _ hel
                | succ j => simp at hc'
              · cases j with
                | zero =>
                  simp only [List.getElem?_cons_zero, Option.some.injEq] at hc'
                  subst hc'
                  exact hr _ _ hel
                | succ j => simp at hc'
        · cases ho with
          | need h0 ho =>
            cases ho
            refine ⟨rfl, .pointer (some ⟨g, o + (off + n.toNat * te.size), none⟩), ?_, .d (.ref g o u h1 hc hr)⟩
            rw [← Nat.add_assoc]
            simp [execOp, hv, hi, run_indexAt_arr htu hte.run_size h0]
      · cases ho
    · cases ho
  · cases ho

theorem bAt_eq {s : ByteArray} {i : Nat} (h : i < s.size) : ∃ b, s[i]? = some b ∧ bAt s i = (b.toNat : Int) := by
  have h' : i < s.data.toList.length := by simpa using h
  refine ⟨s[i], by simp [h], ?_⟩
  unfold bAt
  rw [List.getElem?_eq_getElem h']
  rfl

theorem s_index (hS : TysOk P S) {dst type pos after guard} (t : TypeId) (x i : Operand) : Sound P S ⟨dst, .index t x i, type, pos, after, guard⟩ := by
  refine ⟨?_⟩
  intro w0 A0 N L A T B a w v ups T1 B1 T2 K Q oc dr hoc hI ho hu hp hK
  have hx := ev_rv hI x
  have hi := ev_rv hI i
  simp only [eff] at ho
  refine outV hI ho hu hp hK ?_
  split at ho
  · rename_i ti k n ht hn
    have ht := hS _ _ ht
    rw [hn] at hi
    have hi := rv_int hi
    split at ho
    · rename_i s hu1 hb
      rw [hb] at hx
      have hx := rv_str hx
      have htu : P.underlying t = some .string := by rw [ht.und, hu1]
      cases ho with
      | need h0 ho =>
        cases ho
        obtain ⟨b, hb1, hb2⟩ := bAt_eq (s := s) (i := n.toNat) (by omega)
        refine ⟨rfl, .int .u8 (b.toNat : Int), ?_, by rw [hb2]; exact .d (.int _ _)⟩
        simp only [execOp, Instr.index, Sem.run_bind, hi, hx, asIntOf, run_underlying htu, Sem.run_pure, Result.andThen_ok]
        rw [if_pos h0.1, hb1]
        rfl
    · rename_i len e cs hu1 hb
      rw [hb] at hx
      obtain ⟨vs, hv, hl, h1, hr⟩ := rv_agg hx
      have htu : P.underlying t = some (.array len e) := by rw [ht.und, hu1]
      split at ho
      · rename_i te hte
        have hte := hS _ _ hte
        split at ho
        · rename_i hg
          split at ho
          · rename_i h1s
            have h1s := Nat.eq_of_beq_eq_true h1s
            cases ho with
            | need h0 ho =>
              cases ho with
              | @pick _ _ _ c _ _ hc ho =>
                cases ho
                obtain ⟨u, hu1⟩ := arr_get (C := vs) (j := n.toNat) (by rw [← hl]; exact lt_of_get hc)
                refine ⟨rfl, u, ?_, .d (hr _ c u hc hu1)⟩
                have hpart := run_part_one (w := w) hte hg hu1
                simp [execOp, Instr.index, hi, hv, asIntOf, run_underlying htu, h0, hte.run_size, h1s, hpart]
          · cases ho
        · cases ho
      · cases ho
    · cases ho
  · cases ho
end
end Go.Vm
