/- Texts VmI VmJ VmK, joined. -/
import Derived.Test.YtahnaobdihhppaaMgC
import Derived.Laws.Append
import Derived.Laws.AppendOwn
import Derived.Laws.MakeOwn
import Derived.ArgAppend
section
/- Each operation, fifth part: slices of strings and lists, len, min, max, append, make. -/
namespace Go.Vm
open Go.RowKit (Below)
section
variable {P : Program} {S : Tys} {oc : Option Orc}
variable {w0 : Ent} {A0 : Sta} {N : Nat} {L : Lay} {A : Sta} {T : Nat → AV} {B : Nat → Option Bx} {a : Act} {w : World}
theorem loI_out {x : Option Operand} {k : Int → Res} {v : AV} {ups} (hI : Inv w0 A0 N L A T B a w) (ho : Out P oc (loI (x.map (evA T)) k) v ups) :
    ∃ n : Int, Out P oc (k n) v ups ∧ ((x.map a.eval = none ∧ n = 0) ∨ ∃ ik, x.map a.eval = some (.int ik n)) := by
  cases x with
  | none => exact ⟨0, ho, .inl ⟨rfl, rfl⟩⟩
  | some x =>
    have hx := ev_rv hI x
    simp only [Option.map_some, loI] at ho
    split at ho
    · rename_i h; cases h
    · rename_i ik n h
      simp only [Option.some.injEq] at h
      rw [h] at hx
      exact ⟨_, ho, .inr ⟨ik, by rw [Option.map_some, rv_int hx]⟩⟩
    · cases ho
theorem hiI_out {len : Nat} {x : Option Operand} {k : Int → Res} {v : AV} {ups} (hI : Inv w0 A0 N L A T B a w) (ho : Out P oc (hiI len (x.map (evA T)) k) v ups) :
    ∃ n : Int, Out P oc (k n) v ups ∧ ((x.map a.eval = none ∧ n = len) ∨ ∃ ik, x.map a.eval = some (.int ik n)) := by
  cases x with
  | none => exact ⟨len, ho, .inl ⟨rfl, rfl⟩⟩
  | some x =>
    have hx := ev_rv hI x
    simp only [Option.map_some, hiI] at ho
    split at ho
    · rename_i h; cases h
    · rename_i ik n h
      simp only [Option.some.injEq] at h
      rw [h] at hx
      exact ⟨_, ho, .inr ⟨ik, by rw [Option.map_some, rv_int hx]⟩⟩
    · cases ho
theorem run_bounds {isSlice : Bool} {len cap : Nat} {lo hi : Option Value} {l h : Int} (hlo : (lo = none ∧ l = 0) ∨ ∃ ik, lo = some (.int ik l)) (hhi : (hi = none ∧ h = len) ∨ ∃ ik, hi = some (.int ik h))
    (h0 : 0 ≤ l ∧ l ≤ h ∧ h ≤ (len : Int)) (hc : len ≤ cap) : (Instr.sliceBounds isSlice len cap lo hi none).run P w = .ok (l.toNat, h.toNat, cap) w := by
  have hb : ∀ (ik : IntKind) (n : Int) (y : Nat) (code : BoundsCode), 0 ≤ n ∧ n ≤ (y : Int) → (Instr.sliceBound (.int ik n) y code).run P w = .ok n.toNat w := by
    intro ik n y code hn
    simp [Instr.sliceBound, asIntOf, hn]
  have c2 : 0 ≤ h ∧ h ≤ (cap : Int) := by omega
  have c3 : 0 ≤ l ∧ l ≤ (h.toNat : Int) := by omega
  rcases hhi with ⟨rfl, rfl⟩ | ⟨ik, rfl⟩
  · rcases hlo with ⟨rfl, rfl⟩ | ⟨ik', rfl⟩
    · simp [Instr.sliceBounds]
    · have f := hb ik' l len .sliceB (by omega)
      simp [Instr.sliceBounds, f]
  · have g1 := hb ik h cap .sliceAcap c2
    have g2 := hb ik h cap .sliceAlen c2
    rcases hlo with ⟨rfl, rfl⟩ | ⟨ik', rfl⟩
    · cases isSlice <;> simp [Instr.sliceBounds, g1, g2]
    · have f := hb ik' l h.toNat .sliceB c3
      cases isSlice <;> simp [Instr.sliceBounds, f, g1, g2]

theorem rv_view {b sz lo hi : Nat} {u : Value} (h : RV L w A (.view b sz lo hi) u) : ∃ g cap, (L.hd b).ownBlock = some g ∧ u = .slice (some ⟨g, lo * sz, none⟩) (hi - lo) cap := by
  cases h with
  | view _ _ _ _ g n C hh hb => exact ⟨g, _, by rw [hh]; rfl, rfl⟩
/-- A slice of data is cut. -/
theorem slice_data {t e : TypeId} {te : TI} (htu : P.underlying t = some (.slice e)) (hte : TyOk P e te) {sz : Nat} (hsz : te.size = sz) {es : List D} {u : Value} (hx : RV L w A (.d (.sl sz es)) u) {lo hi : Option Value} {l h : Int}
    (hl : (lo = none ∧ l = 0) ∨ ∃ ik, lo = some (.int ik l)) (hh : (hi = none ∧ h = es.length) ∨ ∃ ik, hi = some (.int ik h)) (h0 : 0 ≤ l ∧ l ≤ h ∧ h ≤ (es.length : Int)) :
    ∃ v', (Instr.sliceAt t u lo hi none).run P w = .ok v' w ∧ RV L w A (.d (.sl sz ((es.take h.toNat).drop l.toNat))) v' := by
  have hlen : ((es.take h.toNat).drop l.toNat).length = h.toNat - l.toNat := by
    rw [List.length_drop, List.length_take]; omega
  have run : ∀ p cap, u = .slice p es.length cap → es.length ≤ cap → (Instr.sliceAt t u lo hi none).run P w = .ok (.slice (if cap = l.toNat then p else p.map (·.add (l.toNat * sz))) (h.toNat - l.toNat) (cap - l.toNat)) w := by
    intro p cap hv hc
    have := run_bounds (P := P) (w := w) (isSlice := true) (cap := cap) hl hh h0 hc
    simp [Instr.sliceAt, Instr.slice, run_underlying htu, hv, this, hte.run_size, hsz]
  cases hnil : (es.take h.toNat).drop l.toNat with
  | nil =>
    rw [hnil] at hlen
    have e0 : h.toNat - l.toNat = 0 := by simpa using hlen.symm
    rcases rv_sl hx with ⟨rfl, p, cap, hv⟩ | ⟨g, o, cap, uu, hv, h1, _⟩
    · exact ⟨_, run p cap hv (Nat.zero_le _), by rw [e0]; exact .d (.slnil _ _ _)⟩
    · exact ⟨_, run _ cap hv h1, by rw [e0]; exact .d (.slnil _ _ _)⟩
  | cons e1 er =>
    rw [hnil] at hlen
    simp only [List.length_cons] at hlen
    rcases rv_sl hx with ⟨rfl, p, cap, hv⟩ | ⟨g, o, cap, uu, hv, h1, h2, h3, h4⟩
    · simp at hnil
    · refine ⟨_, run _ cap hv h1, ?_⟩
      rw [if_neg (by omega), ← hnil]
      have get : ∀ (i : Nat) c, ((es.take h.toNat).drop l.toNat)[i]? = some c → es[l.toNat + i]? = some c := by
        intro i c hc
        rw [List.getElem?_drop, List.getElem?_take] at hc
        split at hc
        · exact hc
        · cases hc
      have hadd : (⟨g, o, none⟩ : Addr).add (l.toNat * sz) = ⟨g, o + l.toNat * sz, none⟩ := Addr.add_mid g o _
      have hlen' : ((es.take h.toNat).drop l.toNat).length = h.toNat - l.toNat := by rw [List.length_drop, List.length_take]; omega
      rw [Option.map_some, hadd, ← hlen']
      have hrow : ∀ i j : Nat, o + l.toNat * sz + i * sz + j = o + (l.toNat + i) * sz + j := by intro i j; rw [Nat.add_mul]; omega
      refine .d (.sl g (o + l.toNat * sz) (fun i j => uu (l.toNat + i) j) (by omega) (fun i e he => h2 _ e (get i e he)) (fun i e j c he hc => ?_) fun i e j c he hc => h4 _ e j c (get i e he) hc)
      rw [hrow]
      exact h3 _ e j c (get i e he) hc
/-- An array is cut. -/
theorem slice_arr {t e : TypeId} {te : TI} {n : Nat} (htu : P.underlying t = some (.array n e)) (hte : TyOk P e te) (hsz : te.size = 1) {es : List D} {g : Nat} (hn : es.length = n) (h1 : ∀ c ∈ es, c.one = true)
    (hc : ∀ (j : Nat) c, es[j]? = some c → A g j ∧ ∃ u, w.cell? ⟨g, j, none⟩ = some u ∧ Rep w A c u) {lo hi : Option Value} {l h : Int}
    (hl : (lo = none ∧ l = 0) ∨ ∃ ik, lo = some (.int ik l)) (hh : (hi = none ∧ h = n) ∨ ∃ ik, hi = some (.int ik h)) (h0 : 0 ≤ l ∧ l ≤ h ∧ h ≤ (n : Int)) :
    ∃ v', (Instr.sliceAt t (.pointer (some ⟨g, 0, none⟩)) lo hi none).run P w = .ok v' w ∧ RV L w A (.d (.sl 1 ((es.take h.toNat).drop l.toNat))) v' := by
  subst hn
  have hlen : ((es.take h.toNat).drop l.toNat).length = h.toNat - l.toNat := by
    rw [List.length_drop, List.length_take]; omega
  have hb := run_bounds (P := P) (w := w) (isSlice := false) (cap := es.length) hl hh h0 (Nat.le_refl _)
  have run : (Instr.sliceAt t (.pointer (some ⟨g, 0, none⟩)) lo hi none).run P w = .ok (.slice (some (if es.length = l.toNat then ⟨g, 0, none⟩ else (⟨g, 0, none⟩ : Addr).add (l.toNat * 1))) (h.toNat - l.toNat) (es.length - l.toNat)) w := by
    simp [Instr.sliceAt, run_underlying htu, Instr.sureAddr, hb, hte.run_size, hsz]
  refine ⟨_, run, ?_⟩
  rcases Nat.eq_zero_or_pos (h.toNat - l.toNat) with e0 | hpos
  · rw [List.eq_nil_of_length_eq_zero (hlen.trans e0), e0]
    exact .d (.slnil _ _ _)
  · rw [if_neg (by omega), ← hlen]
    have hadd : (⟨g, 0, none⟩ : Addr).add (l.toNat * 1) = ⟨g, l.toNat, none⟩ := by
      have := Addr.add_mid g 0 (l.toNat * 1)
      simpa using this
    rw [hadd]
    have get : ∀ (i : Nat) c, ((es.take h.toNat).drop l.toNat)[i]? = some c → es[l.toNat + i]? = some c := by
      intro i c hc
      rw [List.getElem?_drop, List.getElem?_take] at hc
      split at hc
      · exact hc
      · cases hc
    have cell : ∀ (i : Nat) y (j : Nat) c, ((es.take h.toNat).drop l.toNat)[i]? = some y → y.cells[j]? = some c → j = 0 ∧ c = y := by
      intro i y j c hy hc'
      have := h1 y (List.mem_of_getElem? (get i y hy))
      rw [(one_cells this).1] at hc'
      cases j with
      | zero => simp only [List.getElem?_cons_zero, Option.some.injEq] at hc'; exact ⟨rfl, hc'.symm⟩
      | succ j => simp at hc'
    refine .d (.sl g l.toNat (fun i _ => (w.cell? ⟨g, l.toNat + i, none⟩).getD undef) (by omega) (fun i y hy => ?_) (fun i y j c hy hc' => ?_) fun i y j c hy hc' => ?_)
    · obtain ⟨o1, o2⟩ := one_cells (h1 y (List.mem_of_getElem? (get i y hy)))
      exact ⟨by rw [o1]; rfl, o2⟩
    · obtain ⟨rfl, rfl⟩ := cell i y j c hy hc'
      obtain ⟨q1, u, q2, q3⟩ := hc _ _ (get i _ hy)
      rw [Nat.mul_one, Nat.add_zero]
      exact ⟨q1, by rw [q2]; rfl⟩
    · obtain ⟨rfl, rfl⟩ := cell i y j c hy hc'
      obtain ⟨q1, u, q2, q3⟩ := hc _ _ (get i _ hy)
      rw [q2]
      exact q3

theorem own_add0 (g : Nat) (o : Nat) : (⟨g, 0, none⟩ : Addr).add o = ⟨g, o, none⟩ := by
  have := Addr.add_mid g 0 o
  simpa using this
/-- A part of a slice that the call owns. -/
theorem slice_view {t e : TypeId} {te : TI} (htu : P.underlying t = some (.slice e)) (hte : TyOk P e te) {sz : Nat} (hsz : te.size = sz) {base et n : Nat} {v : Value} {xs : List Value} (ho : w.ownsRow base et sz v n xs) {lo hi : Option Value} {l h : Int}
    (hl : (lo = none ∧ l = 0) ∨ ∃ ik, lo = some (.int ik l)) (hh : (hi = none ∧ h = n) ∨ ∃ ik, hi = some (.int ik h)) (h0 : 0 ≤ l ∧ l < h ∧ h ≤ (n : Int)) :
    ∃ g C, (v = .slice (some ⟨g, 0, none⟩) n C ∧ n ≤ C) ∧ (Instr.sliceAt t v lo hi none).run P w = .ok (.slice (some ⟨g, l.toNat * sz, none⟩) (h.toNat - l.toNat) (C - l.toNat)) w := by
  rcases ho.2 with ⟨rfl, rfl⟩ | ⟨g, cap, cur, rfl, _, _, hnc, _⟩
  · omega
  · have := run_bounds (P := P) (w := w) (isSlice := true) (cap := cap) hl hh ⟨h0.1, by omega, h0.2.2⟩ hnc
    refine ⟨g, cap, ⟨rfl, hnc⟩, ?_⟩
    simp [Instr.sliceAt, Instr.slice, run_underlying htu, this, hte.run_size, hsz]
    rw [if_neg (by omega)]
    rw [own_add0]
/-- A part of a part. -/
theorem slice_part {t e : TypeId} {te : TI} (htu : P.underlying t = some (.slice e)) (hte : TyOk P e te) {sz : Nat} (hsz : te.size = sz) {g o len cap : Nat} (hnc : len ≤ cap) {lo hi : Option Value} {l h : Int}
    (hl : (lo = none ∧ l = 0) ∨ ∃ ik, lo = some (.int ik l)) (hh : (hi = none ∧ h = len) ∨ ∃ ik, hi = some (.int ik h)) (h0 : 0 ≤ l ∧ l ≤ h ∧ h ≤ (len : Int)) :
    ∃ a, (l < h → a = (⟨g, o + l.toNat * sz, none⟩ : Addr)) ∧ (Instr.sliceAt t (.slice (some ⟨g, o, none⟩) len cap) lo hi none).run P w = .ok (.slice (some a) (h.toNat - l.toNat) (cap - l.toNat)) w := by
  have := run_bounds (P := P) (w := w) (isSlice := true) (cap := cap) hl hh h0 hnc
  refine ⟨if cap = l.toNat then ⟨g, o, none⟩ else ⟨g, o + l.toNat * sz, none⟩, fun hlt => by rw [if_neg (by omega)], ?_⟩
  simp [Instr.sliceAt, Instr.slice, run_underlying htu, this, hte.run_size, hsz]
  split
  · rfl
  · exact congrArg some (Addr.add_mid g o _)
/-- A slice that the call owns is made shorter. -/
theorem slice_shrink {t e : TypeId} {te : TI} (htu : P.underlying t = some (.slice e)) (hte : TyOk P e te) {sz : Nat} (hsz : te.size = sz) {base et n : Nat} {v : Value} {xs : List Value} (ho : w.ownsRow base et sz v n xs) {lo hi : Option Value} {h : Int}
    (hl : (lo = none ∧ (0 : Int) = 0) ∨ ∃ ik, lo = some (.int ik 0)) (hh : (hi = none ∧ h = n) ∨ ∃ ik, hi = some (.int ik h)) (h0 : 0 ≤ h ∧ h ≤ (n : Int)) :
    ∃ v', (Instr.sliceAt t v lo hi none).run P w = .ok v' w ∧ w.ownsRow base et sz v' h.toNat (xs.take (h.toNat * sz)) ∧ (∀ g, v'.ownBlock = some g → v.ownBlock = some g) ∧ (v' ≠ .slice none 0 0 → v ≠ .slice none 0 0) ∧ Vm.oneV v' = true := by
  have hb : ∀ cap, n ≤ cap → (Instr.sliceBounds true n cap lo hi none).run P w = .ok ((0 : Int).toNat, h.toNat, cap) w := fun cap hc => run_bounds (P := P) (w := w) (isSlice := true) (cap := cap) hl hh ⟨by omega, h0.1, h0.2⟩ hc
  have hlen : (xs.take (h.toNat * sz)).length = h.toNat * sz := by
    rw [List.length_take, ho.1, Nat.min_eq_left (Nat.mul_le_mul_right _ (by omega))]
  rcases ho.2 with ⟨rfl, rfl⟩ | ⟨g, cap, cur, rfl, h1, h2, hnc, h3, h4, h5⟩
  · have := hb 0 (Nat.le_refl _)
    have e : h.toNat = 0 := by omega
    rw [e] at this hlen ⊢
    refine ⟨.slice none 0 0, ?_, ⟨hlen, .inl ⟨rfl, rfl⟩⟩, fun g hg => (by cases hg), fun h _ => h rfl, rfl⟩
    simp [Instr.sliceAt, Instr.slice, run_underlying htu, this, hte.run_size, hsz]
  · have := hb cap hnc
    have hle : h.toNat * sz ≤ n * sz := Nat.mul_le_mul_right _ (by omega)
    refine ⟨.slice (some ⟨g, 0, none⟩) h.toNat cap, ?_, ⟨hlen, .inr ⟨g, cap, cur, rfl, h1, h2, by omega, h3, h4, ?_⟩⟩, fun g hg => hg, fun _ e => (by cases e), rfl⟩
    · simp [Instr.sliceAt, Instr.slice, run_underlying htu, this, hte.run_size, hsz]
      intro _
      exact own_add0 g 0
    · rw [← h5, List.take_take, Nat.min_eq_left hle]

theorem s_slice (hS : TysOk P S) {dst type pos after guard} (t : TypeId) (x : Operand) (lo hi mx : Option Operand) : Sound P S ⟨dst, .slice t x lo hi mx, type, pos, after, guard⟩ := by
  refine ⟨?_⟩
  intro w0 A0 N L A T B a w v ups T1 B1 T2 K Q oc dr hoc hI ho hu hp hK
  have hx := ev_rv hI x
  simp only [eff] at ho
  split at ho
  · rename_i ti ht
    have ht := hS _ _ ht
    split at ho
    · refine outV hI ho hu hp hK ?_
      rename_i s hu1 hb
      rw [hb] at hx
      have hx := rv_str hx
      have htu : P.underlying t = some .string := by rw [ht.und, hu1]
      obtain ⟨l, ho, hl⟩ := loI_out hI ho
      obtain ⟨h, ho, hh⟩ := hiI_out hI ho
      cases ho with
      | need h0 ho =>
        cases ho
        refine ⟨rfl, .string (s.extract l.toNat h.toNat), ?_, .d (.str _)⟩
        have := run_bounds (P := P) (w := w) (isSlice := false) (cap := s.size) hl hh h0 (Nat.le_refl _)
        simp [execOp, Instr.sliceAt, Instr.slice, run_underlying htu, hx, this]
    · refine outV hI ho hu hp hK ?_
      rename_i e sz es hu1 hb
      rw [hb] at hx
      have htu : P.underlying t = some (.slice e) := by rw [ht.und, hu1]
      split at ho
      · rename_i te hte
        have hte := hS _ _ hte
        split at ho
        · rename_i hsz
          have hsz := Nat.eq_of_beq_eq_true hsz
          obtain ⟨l, ho, hl⟩ := loI_out hI ho
          obtain ⟨h, ho, hh⟩ := hiI_out hI ho
          cases ho with
          | need h0 ho =>
            cases ho
            obtain ⟨v', k1, k2⟩ := slice_data htu hte hsz hx hl hh h0
            exact ⟨rfl, v', by simp [execOp, k1], k2⟩
        · cases ho
      · cases ho
    · rename_i e b sz0 n0 hu1 hb
      rw [hb] at hx
      have hx := rv_own hx
      have htu : P.underlying t = some (.slice e) := by rw [ht.und, hu1]
      split at ho
      · rename_i te hte
        have hte := hS _ _ hte
        split at ho
        · rename_i et sz es fz hbx
          split at ho
          · rename_i hsz
            have hsz := Nat.eq_of_beq_eq_true hsz
            obtain ⟨l, ho, hl⟩ := loI_out hI ho
            obtain ⟨h, ho, hh⟩ := hiI_out hI ho
            cases ho with
            | altL ho =>
              cases ho with
              | need h0 ho =>
                cases ho
                have hTB : T = T1 ∧ B1 = upd B b (some (.row et sz es true)) := by
                  cases fz with
                  | true =>
                    cases hu
                    refine ⟨rfl, funext fun b' => ?_⟩
                    by_cases e : b' = b
                    · subst e; rw [upd_same, hbx]
                    · rw [upd_ne _ _ e]
                  | false =>
                    obtain ⟨rfl, rfl, _⟩ := upsOne hu (by rw [hbx]; simp)
                    exact ⟨rfl, rfl⟩
                obtain ⟨rfl, rfl⟩ := hTB
                obtain ⟨A', hA, hI', hrep⟩ := hI.freezeRow hbx
                obtain ⟨v', k1, k2⟩ := slice_data (L := L) htu hte hsz (.d hrep) hl hh h0
                rw [← hx] at k1
                exact zarr (by simp [execOp, k1]) (hK _ _ _ _ (fin hI' k2 hp))
            | altR ho =>
              obtain ⟨xs, c1, c2, c3, c4, c5⟩ := hI.bxs b _ hbx
              cases ho with
              | altL ho =>
                cases ho with
                | need h0 ho =>
                  cases ho
                  cases hu
                  obtain ⟨g, cap', k0, k1⟩ := slice_view (P := P) htu hte hsz c1 hl hh h0
                  rw [← hx] at k1
                  exact zarr (by simp [execOp, k1]) (hK _ _ _ _ (fin hI (.view b sz _ _ g _ cap' k0.1 (by have := k0.2; omega)) hp))
              | altR ho =>
                cases dst with
                | none => cases ho
                | some t0 =>
                cases fz with
                | true => cases ho
                | false =>
                  simp only at ho
                  cases ho with
                  | need h0 ho =>
                    cases ho
                    obtain ⟨rfl, h0⟩ := h0
                    obtain ⟨v', k1, k2, k3, k4, k5⟩ := slice_shrink (P := P) htu hte hsz c1 hl hh h0
                    rw [← hx] at k1
                    have hne : ∀ {b' : Nat}, B b' ≠ none → B b' ≠ none := id
                    have hTB : T = T1 ∧ B1 = upd (upd B b (some .gone)) t0 (some (.row et sz (es.take h.toNat) false)) ∧ B t0 = none ∧ pinned t0 = false ∧ t0 ≠ b := by
                      cases hu with
                      | new _ _ hb0 => rw [hbx] at hb0; cases hb0
                      | set q1 q2 q3 hu =>
                        cases hu with
                        | set q4 => rw [isNew_slot rfl] at q4; cases q4
                        | new q4 q5 q6 q7 hu =>
                          cases hu
                          have e : t0 ≠ b := by rintro rfl; rw [upd_same] at q6; cases q6
                          rw [upd_ne _ _ e] at q6
                          exact ⟨rfl, rfl, q6, q5, e⟩
                    obtain ⟨rfl, rfl, hBt, hpt, htb⟩ := hTB
                    have hI' : Inv w0 A0 N (L.at t0 (L.ι b) v') A T (upd (upd B b (some .gone)) t0 (some (.row et sz (es.take h.toNat) false))) a w := by
                      have hbt : ∀ b', B b' ≠ none → b' ≠ t0 := fun b' hb' e => hb' (e ▸ hBt)
                      refine hI.turns (fun b' => b' = b ∨ b' = t0) (own L b (.row et sz es false)) rfl .rfl' rfl (Nat.le_refl _) (fun g hg => hI.lo b _ g hbx hg) (fun g b' y hg hk hy hg' => hk (.inl (hI.inj b' b y _ g hy hbx hg' hg)))
                        (fun _ _ _ => rfl) (fun _ _ _ => rfl) (fun _ _ h => h) hI.Aok (fun _ _ h => .inl h) (fun b' hb' => Lay.at_eq (hbt b' hb')) (fun _ _ _ => rfl) (fun b' hk => ?_) (fun b' hb' => ?_) (fun b' hpp hb' => ?_) (fun b' y hk hy => ?_) (fun b1 b2 y1 y2 g hk1 hk2 hy1 hy2 o1 o2 => ?_) (fun b' y b'' hk hy hm => ?_)
                      · rw [upd_ne _ _ fun e => hk (.inr e), upd_ne _ _ fun e => hk (.inl e)]
                      · rw [upd_ne _ _ (hbt b' hb')]
                        by_cases e : b' = b
                        · subst e; rw [upd_same]; simp
                        · rwa [upd_ne _ _ e]
                      · have e : b' ≠ t0 := by rintro rfl; rw [hpt] at hpp; cases hpp
                        rw [upd_ne _ _ e] at hb'
                        by_cases e : b' = b
                        · subst e; rw [hbx]; simp
                        · rwa [upd_ne _ _ e] at hb'
                      · by_cases e : b' = t0
                        · subst e
                          rw [upd_same] at hy
                          cases hy
                          refine ⟨⟨xs.take (h.toNat * sz), ?_, fun i y hy => ?_, fun i y j c u hy hc hu => ?_, fun g hg => ?_, fun hn o ho => ?_⟩, fun g hg => ?_⟩
                          · rw [Lay.at_hd, List.length_take, Nat.min_eq_left (by omega)]; exact k2
                          · rw [List.getElem?_take] at hy
                            split at hy
                            · exact c2 i y hy
                            · cases hy
                          · rw [List.getElem?_take] at hy hu
                            split at hy
                            · split at hu
                              · exact c3 i y j c u hy hc hu
                              · cases hu
                            · cases hy
                          · rw [Lay.at_hd] at hg; rw [Lay.at_ι]; exact c4 g (k3 g hg)
                          · rw [Lay.at_hd] at hn; rw [Lay.at_ι] at ho
                            exact absurd (c5 (k4 hn) o ho).1 (by decide)
                          · have hg : ((L.at b' (L.ι b) v').hd b').ownBlock = some g := hg
                            rw [Lay.at_hd] at hg
                            exact k3 g hg
                        · rw [upd_ne _ _ e] at hy
                          rcases hk with rfl | hk
                          · rw [upd_same] at hy
                            cases hy
                            exact ⟨trivial, fun g hg => hg.elim⟩
                          · exact absurd hk e
                      · have side : ∀ b' y, (b' = b ∨ b' = t0) → upd (upd B b (some .gone)) t0 (some (.row et sz (es.take h.toNat) false)) b' = some y → own (L.at t0 (L.ι b) v') b' y g → b' = t0 := by
                          intro b' y hk hy ho
                          by_cases e : b' = t0
                          · exact e
                          · rw [upd_ne _ _ e] at hy
                            rcases hk with rfl | hk
                            · rw [upd_same] at hy
                              cases hy
                              exact ho.elim
                            · exact absurd hk e
                        rw [side b1 y1 hk1 hy1 o1, side b2 y2 hk2 hy2 o2]
                      · by_cases e : b' = t0
                        · subst e
                          rw [upd_same] at hy
                          cases hy; cases hm
                        · rw [upd_ne _ _ e] at hy
                          rcases hk with rfl | hk
                          · rw [upd_same] at hy
                            cases hy; cases hm
                          · exact absurd hk e
                    refine zarr (u := v') (by simp [execOp, k1]) (hK _ _ _ _ (fin hI' ?_ hp))
                    have := RV.own (L := L.at t0 (L.ι b) v') (w := w) (A := A) t0 sz h.toNat (by rw [Lay.at_hd]; exact k5)
                    rwa [Lay.at_hd] at this
          · cases ho
        · cases ho
      · cases ho
    · rename_i e b sz l0 h0' hu1 hb
      have hcl := ev_cl hI x
      rw [hb] at hx hcl
      obtain ⟨g, nn, C, hh0, hbd, hv⟩ := rv_view2 hx
      have htu : P.underlying t = some (.slice e) := by rw [ht.und, hu1]
      split at ho
      · rename_i te hte
        have hte := hS _ _ hte
        split at ho
        · rename_i hsz
          have hsz := Nat.eq_of_beq_eq_true hsz
          obtain ⟨l, ho, hl⟩ := loI_out hI ho
          obtain ⟨h, ho, hh⟩ := hiI_out hI ho
          cases ho with
          | altL ho =>
            cases ho with
            | need q ho =>
              cases ho
              cases hu
              obtain ⟨ad, ha, k1⟩ := slice_part (P := P) (w := w) (g := g) (o := l0 * sz) (cap := C - l0) htu hte hsz (by omega) hl hh ⟨q.1, by omega, q.2.2⟩
              rw [← hv] at k1
              rw [ha q.2.1, ← Nat.add_mul] at k1
              have key : RV L w A (.view b sz (l0 + l.toNat) (l0 + h.toNat)) (.slice (some ⟨g, (l0 + l.toNat) * sz, none⟩) (l0 + h.toNat - (l0 + l.toNat)) (C - (l0 + l.toNat))) := .view b sz _ _ g nn C hh0 (by omega)
              rw [show l0 + h.toNat - (l0 + l.toNat) = h.toNat - l.toNat by omega, show C - (l0 + l.toNat) = C - l0 - l.toNat by omega] at key
              exact zarr (by simp [execOp, k1]) (hK _ _ _ _ (fin hI key hp))
          | altR ho =>
            cases ho with
            | need q ho =>
              cases ho
              cases hu
              obtain ⟨ad, -, k1⟩ := slice_part (P := P) (w := w) (g := g) (o := l0 * sz) (cap := C - l0) htu hte hsz (by omega) hl hh ⟨q.1, by omega, q.2.2⟩
              rw [← hv] at k1
              have e0 : h.toNat - l.toNat = 0 := by omega
              rw [e0] at k1
              exact zarr (by simp [execOp, k1]) (hK _ _ _ _ (fin hI (.d (.slnil sz (some ad) (C - l0 - l.toNat))) hp))
        · cases ho
      · cases ho
    · rename_i len e b hu1 hb
      rw [hb] at hx
      have hx := rv_ptr hx
      have htu : P.underlying t = some (.array len e) := by rw [ht.und, hu1]
      split at ho
      · rename_i te hte
        have hte := hS _ _ hte
        split at ho
        · rename_i es fz hbx hsz
          obtain ⟨l, ho, hl⟩ := loI_out hI ho
          obtain ⟨h, ho, hh⟩ := hiI_out hI ho
          cases ho with
          | need h0 ho =>
            cases ho
            obtain ⟨h0, hn⟩ := h0
            obtain ⟨rfl, rfl, _⟩ := upsOne hu (by rw [hbx]; simp)
            have hI' := hI.freezeArr hbx
            obtain ⟨C, et, c1, c2, c3, c4, _⟩ := hI'.bxs b _ (upd_same _ _ _)
            obtain ⟨v', k1, k2⟩ := slice_arr (L := L) (g := L.ι b) htu hte hsz hn c3 (fun j c hc => by
              obtain ⟨u, hu⟩ := arr_get (C := C) (j := j) (by rw [c2]; exact lt_of_get hc)
              exact ⟨.inr ⟨rfl, lt_of_get hc⟩, u, by rw [cell_of_row w (L.ι b) j C et (0, 0) c1]; exact hu, c4 j c u hc hu⟩) hl hh h0
            rw [← hx] at k1
            exact zarr (by simp [execOp, k1]) (hK _ _ _ _ (fin hI' k2 hp))
        · cases ho
      · cases ho
    · cases ho
  · cases ho

theorem foldI_spec (f : Int → Int → Int) (g2 : Value → Value → Sem Value) (hg : ∀ x y w, (g2 (.int .i64 x) (.int .i64 y)).run P w = .ok (.int .i64 (f x y)) w) (hI : Inv w0 A0 N L A T B a w) :
    ∀ (l : List Operand) (x z : Int), foldI f x (l.map (evA T)) = some z → (List.foldlM g2 (.int .i64 x) (l.map a.eval)).run P w = .ok (.int .i64 z) w
  | [], x, z, h => by simp only [List.map_nil, foldI] at h; cases h; rfl
  | y :: l, x, z, h => by
    have hy := ev_rv hI y
    simp only [List.map_cons, foldI] at h
    split at h
    · rename_i b hb
      rw [hb] at hy
      have hy := rv_int hy
      simp only [List.map_cons, List.foldlM_cons, Sem.run_bind, hy, hg, Result.andThen_ok]
      exact foldI_spec f g2 hg hI l _ _ h
    · cases h

theorem run_call_builtin {dst type pos after guard} {b : Builtin} {args : Array Operand} {argTypes : Array TypeId} {u : Value} {f : Array TypeId → TypeId → Array Value → Sem Value} {w' : World}
    (hb : ∀ (as : Array Value) (cs : Array Bool), builtin b argTypes type cs as = (do pure (.value (← f argTypes type as)) : Sem Next))
    (hr : (f argTypes type (args.map a.eval)).run P w = .ok u w') :
    (execOp a.eval ⟨dst, .call { callee := .builtin b, args := args, argTypes := argTypes }, type, pos, after, guard⟩).run P w = .ok (.value u) w' := by
  simp only [execOp, resolve, invoke, Sem.run_bind, Sem.run_pure, Result.andThen_ok, hb, hr]

theorem ownsRow_len {base e sz n : Nat} {v : Value} {xs : List Value} (h : w.ownsRow base e sz v n xs) : ∃ p cap, v = .slice p n cap := by
  obtain ⟨_, ⟨rfl, rfl⟩ | ⟨g, cap, cur, rfl, _⟩⟩ := h
  · exact ⟨none, 0, rfl⟩
  · exact ⟨_, cap, rfl⟩
theorem map_two {c : Array Operand} {f : Operand → AV} {x y : AV} (h : c.toList.map f = [x, y]) : ∃ p q, c = #[p, q] ∧ f p = x ∧ f q = y := by
  obtain ⟨l⟩ := c
  match l, h with
  | [p, q], h => simp only [List.map_cons, List.map_nil, List.cons.injEq, and_true] at h; exact ⟨p, q, rfl, h.1, h.2⟩

theorem s_len (hS : TysOk P S) {dst type pos after guard} (args : Array Operand) (argTypes : Array TypeId) : Sound P S ⟨dst, .call { callee := .builtin .len, args := args, argTypes := argTypes }, type, pos, after, guard⟩ := by
  refine ⟨?_⟩
  intro w0 A0 N L A T B a w v ups T1 B1 T2 K Q oc dr hoc hI ho hu hp hK
  simp only [eff] at ho
  refine outV hI ho hu hp hK ?_
  split at ho
  · rename_i vx t tr hargs htys
    obtain ⟨l⟩ := args
    match l, hargs with
    | [x], hargs =>
      simp only [List.map_cons, List.map_nil, List.cons.injEq, and_true] at hargs
      have hx := ev_rv hI x
      rw [hargs] at hx
      have h0 : argTypes[0]? = some t := by rw [← Array.getElem?_toList, htys]; rfl
      split at ho
      · rename_i ti ht
        have ht := hS _ _ ht
        have go : ∀ (n : Int), (Builtin.len_ argTypes type #[a.eval x]).run P w = .ok (.int .i64 n) w →
            ∃ u, (execOp a.eval ⟨dst, .call { callee := .builtin .len, args := #[x], argTypes := argTypes }, type, pos, after, guard⟩).run P w = .ok (.value u) w ∧ RV L w A (.d (.int .i64 n)) u :=
          fun n h => ⟨_, run_call_builtin (f := Builtin.len_) (fun _ _ => rfl) (by simpa using h), .d (.int _ _)⟩
        have slice : ∀ p n c e, ti.und = .slice e → a.eval x = .slice p n c → (Builtin.len_ argTypes type #[a.eval x]).run P w = .ok (.int .i64 (n : Int)) w := by
          intro p n c e hu1 hv
          have htu : P.underlying t = some (.slice e) := by rw [ht.und, hu1]
          simp [Builtin.len_, h0, run_underlying htu, hv, goInt]
        split at ho
        · have hu1 : ∃ e, ti.und = .slice e := ⟨_, by assumption⟩
          obtain ⟨e, hu1⟩ := hu1
          cases ho
          obtain ⟨p, cap, hv⟩ := sl_len hx
          exact ⟨rfl, go _ (slice _ _ _ _ hu1 hv)⟩
        · have hu1 : ∃ e, ti.und = .slice e := ⟨_, by assumption⟩
          obtain ⟨e, hu1⟩ := hu1
          have hx := rv_own hx
          split at ho
          · rename_i et sz' es fz hbx
            cases ho
            obtain ⟨p, cap, hv⟩ := own_len hI hbx
            exact ⟨rfl, go _ (slice _ _ _ _ hu1 (hx.trans hv))⟩
          · rename_i et ie vv rows hbx
            cases ho
            obtain ⟨xs, h1, _⟩ := hI.bxs _ _ hbx
            obtain ⟨p, cap, hv⟩ := ownsRow_len h1
            exact ⟨rfl, go _ (slice _ _ _ _ hu1 (hx.trans hv))⟩
          · cases ho
        · have hu1 : ∃ e, ti.und = .slice e := ⟨_, by assumption⟩
          obtain ⟨e, hu1⟩ := hu1
          have hx := rv_sub hx
          split at ho
          · rename_i et ie vv' rows hbx
            cases ho with
            | need hv ho =>
              subst hv
              cases ho with
              | pickR he ho =>
                cases ho
                obtain ⟨_, ys, k1, _, _⟩ := mat_row hI hbx he
                obtain ⟨p, cap, hv⟩ := ownsRow_len k1
                exact ⟨rfl, go _ (slice _ _ _ _ hu1 (hx.trans hv))⟩
          · cases ho
        · have hu1 : ∃ e, ti.und = .slice e := ⟨_, by assumption⟩
          obtain ⟨e, hu1⟩ := hu1
          cases ho
          exact ⟨rfl, go 0 (slice _ 0 _ _ hu1 (rv_nil hx))⟩
        · have hu1 : ∃ e, ti.und = .slice e := ⟨_, by assumption⟩
          obtain ⟨e, hu1⟩ := hu1
          cases ho
          obtain ⟨g, cap, _, hv⟩ := rv_view hx
          exact ⟨rfl, go _ (slice _ _ _ _ hu1 hv)⟩
        · have hu1 : ∃ e k, ti.und = .map e k := ⟨_, _, by assumption⟩
          obtain ⟨e, k, hu1⟩ := hu1
          split at ho
          · rename_i kt et kd es hbx
            cases ho
            have hv := rv_mp hx
            obtain ⟨E, c, h1, h2, _⟩ := hI.bxs _ _ hbx
            refine ⟨rfl, go _ ?_⟩
            have htu : P.underlying t = some (.map e k) := by rw [ht.und, hu1]
            simp [Builtin.len_, h0, run_underlying htu, hv, goInt, MapKept.run_getObj_map h1, h2]
          · cases ho
        · have hu1 : ti.und = .string := by assumption
          cases ho
          have hx := rv_str hx
          have htu : P.underlying t = some .string := by rw [ht.und, hu1]
          exact ⟨rfl, go _ (by simp [Builtin.len_, h0, run_underlying htu, hx, goInt])⟩
        · cases ho
          refine ⟨rfl, go _ ?_⟩
          have htu := ht.und
          simp [Builtin.len_, run_underlying htu, goInt, *]
        · cases ho
      · cases ho
  · cases ho

theorem s_min {dst type pos after guard} (args : Array Operand) (argTypes : Array TypeId) : Sound P S ⟨dst, .call { callee := .builtin .min, args := args, argTypes := argTypes }, type, pos, after, guard⟩ := by
  refine ⟨?_⟩
  intro w0 A0 N L A T B a w v ups T1 B1 T2 K Q oc dr hoc hI ho hu hp hK
  simp only [eff] at ho
  refine outV hI ho hu hp hK ?_
  split at ho
  · rename_i x vs hargs
    split at ho
    · rename_i z hz
      cases ho
      obtain ⟨l⟩ := args
      match l, hargs with
      | y :: l, hargs =>
        simp only [List.map_cons, List.cons.injEq] at hargs
        have hy := ev_rv hI y
        rw [hargs.1] at hy
        have hy := rv_int hy
        rw [← hargs.2] at hz
        refine ⟨rfl, _, run_call_builtin (f := Builtin.min_) (fun _ _ => rfl) (u := .int .i64 z) (w' := w) ?_, .d (.int _ _)⟩
        simp only [Builtin.min_, List.map_toArray, List.map_cons, hy]
        exact foldI_spec minI Builtin.min2 (fun x y w => by simp [Builtin.min2, minI]) hI l x z hz
    · cases ho
  · cases ho
theorem s_max {dst type pos after guard} (args : Array Operand) (argTypes : Array TypeId) : Sound P S ⟨dst, .call { callee := .builtin .max, args := args, argTypes := argTypes }, type, pos, after, guard⟩ := by
  refine ⟨?_⟩
  intro w0 A0 N L A T B a w v ups T1 B1 T2 K Q oc dr hoc hI ho hu hp hK
  simp only [eff] at ho
  refine outV hI ho hu hp hK ?_
  split at ho
  · rename_i x vs hargs
    split at ho
    · rename_i z hz
      cases ho
      obtain ⟨l⟩ := args
      match l, hargs with
      | y :: l, hargs =>
        simp only [List.map_cons, List.cons.injEq] at hargs
        have hy := ev_rv hI y
        rw [hargs.1] at hy
        have hy := rv_int hy
        rw [← hargs.2] at hz
        refine ⟨rfl, _, run_call_builtin (f := Builtin.max_) (fun _ _ => rfl) (u := .int .i64 z) (w' := w) ?_, .d (.int _ _)⟩
        simp only [Builtin.max_, List.map_toArray, List.map_cons, hy]
        exact foldI_spec maxI Builtin.max2 (fun x y w => by simp [Builtin.max2, maxI]) hI l x z hz
    · cases ho
  · cases ho
end
end Go.Vm
end

section
/- Each operation, sixth part: append, make, closures, calls. -/
namespace Go.Vm
open Go.RowKit (Below)
section
variable {P : Program} {S : Tys} {oc : Option Orc}
variable {w0 : Ent} {A0 : Sta} {N : Nat} {L : Lay} {A : Sta} {T : Nat → AV} {B : Nat → Option Bx} {a : Act} {w : World}
/-- What 'append' does, its two ways told apart: in place, or in a new block. -/
theorem append_two (base : Nat) (t ty e : TypeId) (i : TypeInfo) (z : Value) (size bytes : Nat) (ht : P.underlying t = some (.slice e)) (hi : P.info? e = some i) (hz : i.zero = some z)
    (hsize : i.size = size) (hby : i.bytes = bytes) (hzs : z.cells.size = size)
    (v : Value) (n : Nat) (xs : List Value) (hown : w.ownsRow base e size v n xs)
    (p : Addr) (m c : Nat) (news : List Value) (hl : news.length = m * size) (hnews : ∀ (j : Nat) u, news[j]? = some u → w.cell? (p.add j) = some u) (h1 : ∀ u ∈ news, u.oneCell' = true)
    (h63 : n + m ≤ 140737488355328) (hbytes : (n + m) * bytes ≤ 140737488355328) (hbase : base ≤ w.heap.size) (hm : 0 < m) :
    ∃ v' w', (Builtin.append_ #[t, t] ty #[v, .slice (some p) m c]).run P w = .ok v' w' ∧ w'.ownsRow base e size v' (n + m) (xs ++ news) ∧
      ((∃ g, v.ownBlock = some g ∧ v'.ownBlock = some g ∧ w'.os = w.os ∧ TapeOn w w' ∧ w'.output = w.output ∧ w'.heap.size = w.heap.size ∧ (∀ k, k ≠ g → w'.heap[k]? = w.heap[k]?) ∧
          ∀ o, o < n * size → w'.cell? ⟨g, o, none⟩ = w.cell? ⟨g, o, none⟩) ∨
        (v'.ownBlock = some w.heap.size ∧ BelowD w w' ∧ w.heap.size < w'.heap.size)) := by
  subst hsize; subst hby
  have hlen : (xs ++ news).length = (n + m) * i.size := by rw [List.length_append, hown.1, hl, Nat.add_mul]
  have grown : ∀ (old : Nat), old < n + m →
      (w.drew.alloc (.cells (xs.toArray ++ news.toArray ++ Builtin.zeroCells z.cells (grownCap w (n + m) old e - (n + m))) e)).ownsRow base e i.size
        (.slice (some ⟨w.heap.size, 0, none⟩) (n + m) (grownCap w (n + m) old e)) (n + m) (xs ++ news) := by
    intro old ho
    have hge := grownCap_ge w (n + m) old e
    have hcm : grownCap w (n + m) old e ≤ maxLen := grownCap_le_maxLen w (n + m) old e (by simp only [maxLen]; omega)
    refine ⟨hlen, .inr ⟨w.heap.size, _, _, rfl, hbase, heap_new w.drew _, hge, hcm, ?_, ?_⟩⟩
    · simp only [Array.size_append, List.size_toArray, size_zeroCells, hzs, hown.1, hl, ← Nat.add_mul]
      congr 1
      omega
    · simp only [Array.toList_append, List.append_assoc]
      rw [← List.append_assoc, ← hlen]
      exact List.take_left
  have hbel : ∀ o, BelowD w (w.drew.alloc o) := fun o => ⟨((Below.refl _ w).drew).alloc (Nat.le_refl _) o, Nat.le_succ _⟩
  rcases hown.2 with ⟨rfl, rfl⟩ | ⟨g, cap, cur, rfl, hbg, hg, hnc, hcm, hcs, htake⟩
  · have hx : xs = [] := List.eq_nil_of_length_eq_zero (by simpa using hown.1)
    subst hx
    have hr := run_append_nil (P := P) w t ty e i z ht hi hz p m c news hl hnews hm (by omega) (by have hb := hbytes; simp only [Nat.zero_add] at hb; omega)
    have hgr := grown 0 (by omega)
    simp only [Nat.zero_add, List.nil_append, Array.empty_append] at hgr ⊢
    exact ⟨_, _, hr, hgr, .inr ⟨rfl, hbel _, by simp⟩⟩
  · by_cases hroom : n + m ≤ cap
    · have hfit : n * i.size + news.length ≤ cur.size := by rw [hl, hcs, ← Nat.add_mul]; exact Nat.mul_le_mul_right _ hroom
      have hr := run_append_room (P := P) w t ty e i ht hi g n cap cur hg p m c news hl hnews h1 hroom hfit
      have hfit' : n * i.size + news.length ≤ cur.toList.length := by simpa using hfit
      refine ⟨_, _, hr, ⟨hlen, .inr ⟨g, cap, _, rfl, hbg, setRow_heap w g cur _ e _ hg, hroom, hcm, ?_, ?_⟩⟩, .inl ⟨g, rfl, rfl, rfl, .rfl', rfl, by simp, fun k hk => setRow_other w g k _ hk, fun o ho => ?_⟩⟩
      · simp only [List.size_toArray]
        rw [spl_len hfit']
        simpa using hcs
      · simp only
        rw [htake, ← hlen]
        exact List.take_left
      · rw [cell_setRow_same w g o cur _ e (0, 0) hg, cell_of_row w g o cur e (0, 0) hg, List.getElem?_toArray, spl_get' hfit', if_neg (by omega), Array.getElem?_toList]
    · have holds : ∀ j u, xs[j]? = some u → w.cell? ((⟨g, 0, none⟩ : Addr).add j) = some u := hown.cells (g := g) rfl
      have hr := run_append_grow (P := P) w t ty e i z ht hi hz ⟨g, 0, none⟩ n cap xs hown.1 holds p m c news hl hnews (by omega) (by omega) (growslice_fits (by omega) hbytes)
      exact ⟨_, _, hr, grown cap (by omega), .inr ⟨rfl, hbel _, by simp⟩⟩

theorem run_append_none (t ty e : TypeId) (i : TypeInfo) (size : Nat) (ht : P.underlying t = some (.slice e)) (hi : P.info? e = some i) (base : Nat)
    (v : Value) (n : Nat) (xs : List Value) (hown : w.ownsRow base e size v n xs) (p : Option Addr) (c : Nat) : (Builtin.append_ #[t, t] ty #[v, .slice p 0 c]).run P w = .ok v w := by
  have hf : (Builtin.firstCells i.size 0 (.slice p 0 c)).run P w = .ok #[] w := by
    cases p with
    | none => simp [Builtin.firstCells]
    | some p => simp [Builtin.firstCells, loadCells, loadCellsFrom]
  rcases hown.2 with ⟨rfl, rfl⟩ | ⟨g, cap, cur, rfl, _, _, hnc, _⟩
  · simp [Builtin.append_, run_underlying ht, sizeOf, typeInfo, hi, Builtin.lenOf, hf]
  · simp [Builtin.append_, run_underlying ht, sizeOf, typeInfo, hi, Builtin.lenOf, hnc, hf, storeCells]

/-- The cells of a source, laid out. -/
theorem flatten {es : List D} {sz g o : Nat} (hsz : ∀ (i : Nat) e, es[i]? = some e → e.cells.length = sz ∧ e.flat = true)
    (hc : ∀ (i : Nat) e (j : Nat) c, es[i]? = some e → e.cells[j]? = some c → ∃ u, w.cell? ⟨g, o + i * sz + j, none⟩ = some u ∧ Rep w A c u) :
    ∃ news : List Value, news.length = es.length * sz ∧ (∀ (k : Nat) u, news[k]? = some u → w.cell? ((⟨g, o, none⟩ : Addr).add k) = some u) ∧ (∀ u ∈ news, u.oneCell' = true) ∧
      ∀ (i : Nat) e (j : Nat) c u, es[i]? = some e → e.cells[j]? = some c → news[i * sz + j]? = some u → Rep w A c u := by
  rcases Nat.eq_zero_or_pos sz with h0 | hpos
  · subst h0
    refine ⟨[], by simp, by simp, by simp, fun i e j c u he hcj => ?_⟩
    have := lt_of_get hcj
    rw [(hsz i e he).1] at this
    omega
  · let news : List Value := (List.range (es.length * sz)).map fun k => (w.cell? ⟨g, o + k, none⟩).getD undef
    have hlen : news.length = es.length * sz := by simp [news]
    have at_ : ∀ (k : Nat) u, news[k]? = some u → ∃ (i : Nat) (e : D) (j : Nat) (c : D), es[i]? = some e ∧ e.cells[j]? = some c ∧ k = i * sz + j ∧ w.cell? ⟨g, o + k, none⟩ = some u ∧ Rep w A c u := by
      intro k u hk
      have hlt : k < es.length * sz := by rw [← hlen]; exact lt_of_get hk
      have hi : k / sz < es.length := (Nat.div_lt_iff_lt_mul hpos).2 hlt
      have hj : k % sz < sz := Nat.mod_lt _ hpos
      have hk' : k = k / sz * sz + k % sz := by rw [Nat.mul_comm]; exact (Nat.div_add_mod k sz).symm
      have he : es[k / sz]? = some es[k / sz] := List.getElem?_eq_getElem hi
      have hcl := (hsz _ _ he).1
      have hcj : es[k / sz].cells[k % sz]? = some (es[k / sz].cells[k % sz]'(by omega)) := List.getElem?_eq_getElem (by omega)
      obtain ⟨u', h1, h2⟩ := hc _ _ _ _ he hcj
      rw [Nat.add_assoc, ← hk'] at h1
      have : u = u' := by
        simp only [news, List.getElem?_map, Option.map_eq_some_iff] at hk
        obtain ⟨k2, hk2, rfl⟩ := hk
        rw [List.getElem?_range hlt] at hk2
        cases hk2
        rw [h1]; rfl
      subst this
      exact ⟨_, _, _, _, he, hcj, hk', h1, h2⟩
    refine ⟨news, hlen, fun k u hk => ?_, fun u hu => ?_, fun i e j c u he hcj hk => ?_⟩
    · obtain ⟨_, _, _, _, _, _, _, h1, _⟩ := at_ k u hk
      rw [Addr.add_mid]; exact h1
    · obtain ⟨k, hk⟩ := List.getElem?_of_mem hu
      obtain ⟨i, e, j, c, he, hcj, _, _, h2⟩ := at_ k u hk
      exact h2.oneV (flat_one (hsz i e he).2 c (List.mem_of_getElem? hcj))
    · obtain ⟨u', h1, h2⟩ := hc i e j c he hcj
      have hlt : i * sz + j < es.length * sz := by rw [← hlen]; exact lt_of_get hk
      have : u = u' := by
        simp only [news, List.getElem?_map, Option.map_eq_some_iff] at hk
        obtain ⟨k2, hk2, rfl⟩ := hk
        rw [List.getElem?_range hlt] at hk2
        cases hk2
        rw [← Nat.add_assoc, h1]; rfl
      subst this
      exact h2

/-- A source: its elements, and where they lie. -/
structure Src (w : World) (A : Sta) (sz : Nat) (es : List D) (u : Value) : Prop where
  hsz : ∀ (i : Nat) e, es[i]? = some e → e.cells.length = sz ∧ e.flat = true
  at_ : (es = [] ∧ ∃ p c, u = .slice p 0 c) ∨ ∃ g o c, u = .slice (some ⟨g, o, none⟩) es.length c ∧
    ∀ (i : Nat) e (j : Nat) c, es[i]? = some e → e.cells[j]? = some c → ∃ u, w.cell? ⟨g, o + i * sz + j, none⟩ = some u ∧ Rep w A c u

theorem srcK_out {sz : Nat} {x : AV} {u : Value} {k : List D → Res} {v : AV} {ups} (hI : Inv w0 A0 N L A T B a w) (hx : RV L w A x u) (ho : Out P oc (srcK B sz x k) v ups) :
    ∃ es, Out P oc (k es) v ups ∧ Src w A sz es u := by
  unfold srcK at ho
  split at ho
  · rename_i sz' es
    split at ho
    · rename_i hs
      have hs := Nat.eq_of_beq_eq_true hs
      subst hs
      refine ⟨es, ho, ?_⟩
      rcases rv_sl hx with ⟨rfl, p, c, hv⟩ | ⟨g, o, c, uu, hv, h1, h2, h3, h4⟩
      · exact ⟨by simp, .inl ⟨rfl, p, c, hv⟩⟩
      · exact ⟨h2, .inr ⟨g, o, c, hv, fun i e j c he hc => ⟨_, (h3 i e j c he hc).2, h4 i e j c he hc⟩⟩⟩
    · cases ho
  · refine ⟨[], ho, by simp, .inl ⟨rfl, none, 0, rv_nil hx⟩⟩
  · rename_i b sz' n
    split at ho
    · rename_i et sz'' es fz hbx
      split at ho
      · rename_i hs
        have hs := Nat.eq_of_beq_eq_true hs
        subst hs
        refine ⟨es, ho, ?_⟩
        have hx := rv_own hx
        obtain ⟨xs, ⟨hl, hr⟩, h2, h3, h4, h5⟩ := hI.bxs b _ hbx
        refine ⟨h2, ?_⟩
        rcases hr with ⟨hn, h0⟩ | ⟨g, cap, cur, hv, _⟩
        · exact .inl ⟨List.eq_nil_of_length_eq_zero h0, none, 0, by rw [hx, hn]⟩
        · have hgι : g = L.ι b := h4 g (by rw [hv]; rfl)
          subst hgι
          refine .inr ⟨L.ι b, 0, cap, by rw [hx, hv], fun i e j c he hc => ?_⟩
          obtain ⟨_, _, _, _, _, _, _, _, g7⟩ := row_cells hI hbx he
          rw [Nat.zero_add]
          exact g7 j c hc
      · cases ho
    · cases ho
  · rename_i b vv i
    split at ho
    · rename_i et ie vv' rows hbx
      split at ho
      · rename_i hs
        have hs := Nat.eq_of_beq_eq_true hs
        subst hs
        cases ho with
        | need hv ho =>
          subst hv
          cases ho with
          | @pickR _ _ _ es _ _ he ho =>
            refine ⟨es, ho, ?_⟩
            have hx := rv_sub hx
            obtain ⟨_, ys, k1, k2, k3⟩ := mat_row hI hbx he
            refine ⟨k2, ?_⟩
            cases hob : (L.sub b vv i).ownBlock with
            | none =>
              obtain ⟨q1, q2⟩ := ownBlock_none k1 hob
              exact .inl ⟨List.eq_nil_of_length_eq_zero q2, none, 0, by rw [hx, q1]⟩
            | some g =>
              obtain ⟨cap, hsl, _, hl, hc⟩ := ownsRow_cells k1 hob
              refine .inr ⟨g, 0, cap, by rw [hx, hsl], fun i' e j c he' hc' => ?_⟩
              have hlt := lt_of_get he'
              have hj : j = 0 := by have := lt_of_get hc'; rw [(k2 i' e he').1] at this; omega
              subst hj
              have hy := List.getElem?_eq_getElem (l := ys) (i := i' * 1 + 0) (by omega)
              exact ⟨_, by rw [Nat.zero_add]; exact hc _ _ hy, k3 i' e 0 c _ he' hc' hy⟩
      · cases ho
    · cases ho
  · cases ho

/-- A row of a matrix goes: its header is stale from now on. -/
theorem Inv.punch (h : Inv w0 A0 N L A T B a w) {b et ie v i : Nat} {rows : List (Option (List D))} {es : List D} (hx : B b = some (.mat et ie v rows)) (hi : rows[i]? = some (some es)) :
    Inv w0 A0 N L A T (upd B b (some (.mat et ie v (rows.set i none)))) a w ∧
      ∀ g, (L.sub b v i).ownBlock = some g → ∀ b' x', upd B b (some (.mat et ie v (rows.set i none))) b' = some x' → ¬ own L b' x' g := by
  obtain ⟨xs, g1, g2, g3, g4, g5, g6, g7⟩ := h.bxs b _ hx
  have hset : ∀ (i' : Nat) es', (rows.set i none)[i']? = some (some es') → i' ≠ i ∧ rows[i']? = some (some es') := by
    intro i' es' h
    rw [List.getElem?_set] at h
    by_cases e : i = i'
    · subst e
      rw [if_pos rfl] at h
      split at h <;> simp at h
    · rw [if_neg e] at h
      exact ⟨fun e' => e e'.symm, h⟩
  have hsub : ∀ g, own L b (.mat et ie v (rows.set i none)) g → own L b (.mat et ie v rows) g := by
    rintro g (h | ⟨i', es', h, h'⟩)
    · exact .inl h
    · exact .inr ⟨i', es', (hset i' es' h).2, h'⟩
  have hne : ∀ b', B b' ≠ none → upd B b (some (.mat et ie v (rows.set i none))) b' ≠ none := by
    intro b' hb'
    by_cases e : b' = b
    · subst e; rw [upd_same]; simp
    · rwa [upd_ne _ _ e]
  refine ⟨h.turns (fun b' => b' = b) (own L b (.mat et ie v rows)) rfl .rfl' rfl (Nat.le_refl _) (fun g hg => h.lo b _ g hx hg) (fun g b' y hg hk hy hg' => hk (h.inj b' b y _ g hy hx hg' hg)) (fun _ _ _ => rfl) (fun _ _ _ => rfl)
    (fun _ _ h => h) h.Aok (fun _ _ h => .inl h) (fun _ _ => .rfl') (fun _ _ _ => rfl) (fun b' hb' => upd_ne _ _ hb') hne (fun b' _ hb' => ?_) ?_ ?_ ?_, fun g hg b' x' hx' ho => ?_⟩
  · by_cases e : b' = b
    · subst e; rw [hx]; simp
    · rwa [upd_ne _ _ e] at hb'
  · rintro b' y rfl hy
    rw [upd_same] at hy; cases hy
    refine ⟨⟨xs, by rw [List.length_set]; exact g1, g2, g3, fun i' es' he => g4 i' es' (hset i' es' he).2, fun i1 i2 e1 e2 k h1 h2 h3 h4 => g5 i1 i2 e1 e2 k (hset _ _ h1).2 (hset _ _ h2).2 h3 h4,
      fun i' es' k he hk => g6 i' es' k (hset _ _ he).2 hk, fun k hk o => g7 k (hsub k hk) o⟩, hsub⟩
  · rintro b1 b2 x1 x2 g rfl rfl _ _ _ _; rfl
  · rintro b' y b'' rfl hy hm
    rw [upd_same] at hy; cases hy
    cases hm
  · by_cases e : b' = b
    · subst e
      rw [upd_same] at hx'; cases hx'
      rcases ho with ho | ⟨i', es', he, ho⟩
      · exact g6 i es g hi hg ho
      · obtain ⟨q1, q2⟩ := hset i' es' he
        exact q1 (g5 i' i es' es g q2 hi ho hg)
    · rw [upd_ne _ _ e] at hx'
      exact e (h.inj b' b x' _ g hx' hx ho (.inr ⟨i, es, hi, hg⟩))

/-- What is appended to, when its old name has gone. -/
structure OldR (w0 : Ent) (L : Lay) (w : World) (A : Sta) (B : Nat → Option Bx) (e sz : Nat) (es : List D) (fz : Bool) (u : Value) : Prop where
  row : ∃ xs, w.ownsRow w0.B0 e sz u es.length xs ∧ (∀ (i : Nat) e, es[i]? = some e → e.cells.length = sz ∧ e.flat = true) ∧
    ∀ (i : Nat) e (j : Nat) c v, es[i]? = some e → e.cells[j]? = some c → xs[i * sz + j]? = some v → Rep w A c v
  free : ∀ g, u.ownBlock = some g → (w0.own g ∧ g < w.heap.size) ∧ (∀ b' x', B b' = some x' → ¬ own L b' x' g) ∧ ∀ o, A g o → fz = true ∧ o < es.length * sz

/-- A name is given up. -/
theorem kil_step {dr : Bool} {c : Nat} (hI : Inv w0 A0 N L A T B a w) (hc : B c ≠ none) {dst : Option Nat} {rest : List (Nat × Option Bx)} {T1 : Nat → AV} {B1 : Nat → Option Bx} (hu : UpsR dst (kil dr c :: rest) T B T1 B1) :
    ∃ Tk Bk, Inv w0 A0 N L A Tk Bk a w ∧ UpsR dst rest Tk Bk T1 B1 ∧ (∀ b' x' g, Bk b' = some x' → own L b' x' g → b' ≠ c ∧ ∃ y, B b' = some y ∧ own L b' y g) ∧ ∀ b', b' ≠ c → B b' ≠ none → Bk b' ≠ none := by
  cases hx : B c with
  | none => exact absurd hx hc
  | some x =>
  cases dr with
  | true =>
    have key : ∀ {dst rest T1 B1}, UpsR dst ((c, some .gone) :: rest) T B T1 B1 → UpsR dst rest T (upd B c (some .gone)) T1 B1 := by
      intro dst rest T1 B1 hu
      cases hu with
      | set _ _ _ h => exact h
      | new _ _ hn => rw [hx] at hn; cases hn
    refine ⟨_, _, hI.gone hx, key hu, fun b' x' g hx' ho => ?_, fun b' hne hb' => ?_⟩
    · by_cases e : b' = c
      · subst e; rw [upd_same] at hx'; cases hx'; exact ho.elim
      · rw [upd_ne _ _ e] at hx'; exact ⟨e, x', hx', ho⟩
    · rw [upd_ne _ _ hne]; exact hb'
  | false =>
    cases hu with
    | kill hu =>
      refine ⟨_, _, hI.kill c, hu, fun b' x' g hx' ho => ?_, fun b' hne hb' => ?_⟩
      · obtain ⟨q1, y, q2, q3⟩ := killB_inv hx'
        exact ⟨q1, y, q2, (q3 L g).1 ho⟩
      · unfold killB
        rw [if_neg hne]
        cases hy : B b' with
        | none => exact absurd hy hb'
        | some y => simp
/-- What is appended to. -/
theorem oldK_out {dr : Bool} {e sz : Nat} {x : AV} {u : Value} {k : List D → Bool → List (Nat × Option Bx) → Res} {v : AV} {ups} (hI : Inv w0 A0 N L A T B a w) (hx : RV L w A x u) (ho : Out P oc (oldK B dr e sz x k) v ups) :
    ∃ es fz kill, Out P oc (k es fz kill) v ups ∧ ∀ {dst rest T1 B1}, UpsR dst (kill ++ rest) T B T1 B1 → ∃ Tk Bk, Inv w0 A0 N L A Tk Bk a w ∧ UpsR dst rest Tk Bk T1 B1 ∧ OldR w0 L w A Bk e sz es fz u := by
  unfold oldK at ho
  split at ho
  · refine ⟨[], false, [], ho, fun hu => ⟨T, B, hI, hu, ⟨[], ?_, by simp, by simp⟩, fun g hg => ?_⟩⟩
    · rw [rv_nil hx]; exact ⟨by simp, .inl ⟨rfl, rfl⟩⟩
    · rw [rv_nil hx] at hg; simp [Value.ownBlock] at hg
  · rename_i b sz' n
    split at ho
    · rename_i e' sz'' es fz hbx
      split at ho
      · rename_i h1 h2
        have h1 := Nat.eq_of_beq_eq_true h1
        have h2 := Nat.eq_of_beq_eq_true h2
        subst h1; subst h2
        refine ⟨es, fz, _, ho, fun hu => ?_⟩
        cases dr with
        | true =>
          obtain ⟨xs, g1, g2, g3, g4, g5⟩ := hI.bxs b _ hbx
          rw [rv_own hx]
          have key : ∀ {dst rest T1 B1}, UpsR dst ((b, some .gone) :: rest) T B T1 B1 → UpsR dst rest T (upd B b (some .gone)) T1 B1 := by
            intro dst rest T1 B1 hu
            cases hu with
            | set _ _ _ h => exact h
            | new _ _ hn => rw [hbx] at hn; cases hn
          refine ⟨_, _, hI.gone hbx, key hu, ⟨xs, g1, g2, g3⟩, fun g hg => ⟨hI.lo b _ g hbx hg, fun b' x' hx' ho' => ?_, fun o ho' => ?_⟩⟩
          · by_cases eb : b' = b
            · subst eb; rw [upd_same] at hx'; cases hx'; exact ho'
            · rw [upd_ne _ _ eb] at hx'
              exact eb (hI.inj b' b x' _ g hx' hbx ho' hg)
          · have := g4 g hg
            subst this
            exact g5 (ownBlock_ne hg) o ho'
        | false =>
        cases hu with
        | kill hu =>
          obtain ⟨xs, g1, g2, g3, g4, g5⟩ := hI.bxs b _ hbx
          rw [rv_own hx]
          refine ⟨_, _, hI.kill b, hu, ⟨xs, g1, g2, g3⟩, fun g hg => ⟨hI.lo b _ g hbx hg, fun b' x' hx' ho' => ?_, fun o ho' => ?_⟩⟩
          · obtain ⟨q1, y, q2, q3⟩ := killB_inv hx'
            exact q1 (hI.inj b' b y _ g q2 hbx ((q3 L g).1 ho') hg)
          · have := g4 g hg
            subst this
            exact g5 (ownBlock_ne hg) o ho'
      · cases ho
    · cases ho
  · rename_i b vv i
    split at ho
    · rename_i et ie vv' rows hbx
      split at ho
      · rename_i h1 h2
        have h1 := Nat.eq_of_beq_eq_true h1
        have h2 := Nat.eq_of_beq_eq_true h2
        subst h1; subst h2
        cases ho with
        | need hv ho =>
          subst hv
          cases ho with
          | @pickR _ _ _ es _ _ he ho =>
            refine ⟨es, false, _, ho, fun hu => ?_⟩
            have hu' := by
              rw [List.cons_append] at hu
              exact hu
            have key : ∀ {dst rest T1 B1}, UpsR dst ((b, some (.mat et ie vv (rows.set i none))) :: rest) T B T1 B1 → UpsR dst rest T (upd B b (some (.mat et ie vv (rows.set i none)))) T1 B1 := by
              intro dst rest T1 B1 hu
              cases hu with
              | set _ _ _ h => exact h
              | new _ _ hn => rw [hbx] at hn; cases hn
            obtain ⟨p1, p2⟩ := hI.punch hbx he
            obtain ⟨_, ys, k1, k2, k3⟩ := mat_row hI hbx he
            obtain ⟨_, _, _, _, _, _, _, g7⟩ := hI.bxs b _ hbx
            rw [rv_sub hx]
            refine ⟨_, _, p1, key hu', ⟨ys, k1, k2, k3⟩, fun g hg => ⟨hI.lo b _ g hbx (.inr ⟨i, es, he, hg⟩), p2 g hg, fun o ho' => absurd ho' (g7 g (.inr ⟨i, es, he, hg⟩) o)⟩⟩
      · cases ho
    · cases ho
  · cases ho

/-- The heir of a row: what was there, and what came. -/
theorem heir {base et sz : Nat} {es new : List D} {xs news : List Value} {w' : World} {A : Sta} {hd' : Value} {g : Nat} {fz : Bool} {L' : Lay} {t : Nat}
    (hιt : L'.ι t = g) (hhd : L'.hd t = hd') (hxl : xs.length = es.length * sz)
    (hown : w'.ownsRow base et sz hd' (es.length + new.length) (xs ++ news)) (h2 : ∀ (i : Nat) e, es[i]? = some e → e.cells.length = sz ∧ e.flat = true) (h2' : ∀ (i : Nat) e, new[i]? = some e → e.cells.length = sz ∧ e.flat = true)
    (h3 : ∀ (i : Nat) e (j : Nat) c v, es[i]? = some e → e.cells[j]? = some c → xs[i * sz + j]? = some v → Rep w' A c v)
    (h3' : ∀ (i : Nat) e (j : Nat) c v, new[i]? = some e → e.cells[j]? = some c → news[i * sz + j]? = some v → Rep w' A c v)
    (hb : hd'.ownBlock = some g) (hA : ∀ o, A g o → fz = true ∧ o < es.length * sz) : BR base L' w' A t (.row et sz (es ++ new) fz) := by
  refine ⟨xs ++ news, by rw [hhd, List.length_append]; exact hown, ?_, ?_, ?_, ?_⟩
  · intro i e he
    rcases Nat.lt_or_ge i es.length with h | h
    · rw [List.getElem?_append_left h] at he; exact h2 i e he
    · rw [List.getElem?_append_right h] at he; exact h2' _ e he
  · intro i e j c v he hc hv
    rcases Nat.lt_or_ge i es.length with h | h
    · rw [List.getElem?_append_left h] at he
      have hj : j < sz := by rw [← (h2 i e he).1]; exact lt_of_get hc
      have : (i + 1) * sz ≤ es.length * sz := Nat.mul_le_mul_right _ h
      rw [Nat.add_mul] at this
      rw [List.getElem?_append_left (by omega)] at hv
      exact h3 i e j c v he hc hv
    · rw [List.getElem?_append_right h] at he
      have hij : i * sz + j = es.length * sz + ((i - es.length) * sz + j) := by
        have : i = es.length + (i - es.length) := by omega
        have h5 : i * sz = es.length * sz + (i - es.length) * sz := by rw [← Nat.add_mul, ← this]
        omega
      rw [hij, ← hxl, List.getElem?_append_right (by omega)] at hv
      refine h3' _ e j c v he hc ?_
      rw [← hv]; congr 1; omega
  · intro g' hg'; rw [hhd, hb] at hg'; cases hg'; exact hιt.symm
  · intro _ o ho
    rw [hιt] at ho
    have := hA o ho
    refine ⟨this.1, ?_⟩
    rw [List.length_append, Nat.add_mul]; omega

end
end Go.Vm
end

section
/- Each operation, seventh part: append at the operation; make; closures; calls. -/
namespace Go.Vm
open Go.RowKit (Below)
section
variable {P : Program} {S : Tys}
variable {w0 : Ent} {A0 : Sta} {N : Nat} {L : Lay} {A : Sta} {T : Nat → AV} {B : Nat → Option Bx} {a : Act} {w : World}
/-- After the row that was appended to has gone: the heir comes. -/
theorem Inv.heirs (h : Inv w0 A0 N L A T B a w) {w' : World} {t g et sz : Nat} {es new : List D} {xs news : List Value} {fz : Bool} {v' : Value} (hn : B t = none) (hlt : pinned t = false)
    (hxl : xs.length = es.length * sz) (hown : w'.ownsRow w0.B0 et sz v' (es.length + new.length) (xs ++ news))
    (h2 : ∀ (i : Nat) e, es[i]? = some e → e.cells.length = sz ∧ e.flat = true) (h2' : ∀ (i : Nat) e, new[i]? = some e → e.cells.length = sz ∧ e.flat = true)
    (h3 : ∀ (i : Nat) e (j : Nat) c v, es[i]? = some e → e.cells[j]? = some c → xs[i * sz + j]? = some v → Rep w A c v)
    (h3' : ∀ (i : Nat) e (j : Nat) c v, new[i]? = some e → e.cells[j]? = some c → news[i * sz + j]? = some v → Rep w A c v)
    (hb : v'.ownBlock = some g) (hos : w'.os = w.os) (htape : TapeOn w w') (hout : w'.output = w.output) (hsize : w.heap.size ≤ w'.heap.size)
    (hblock : ∀ k, k < w.heap.size → k ≠ g → w'.heap[k]? = w.heap[k]?) (hcell : ∀ o, A g o → w'.cell? ⟨g, o, none⟩ = w.cell? ⟨g, o, none⟩)
    (hA : ∀ o, A g o → fz = true ∧ o < es.length * sz) (hfree : ∀ b' x', B b' = some x' → ¬ own L b' x' g) (hog : w0.own g) :
    ∃ L', L'.hd t = v' ∧ Inv w0 A0 N L' A T (upd B t (some (.row et sz (es ++ new) fz))) a w' := by
  have hw : ∀ k o, A k o → w'.cell? ⟨k, o, none⟩ = w.cell? ⟨k, o, none⟩ := by
    intro k o hk
    by_cases e : k = g
    · subst e; exact hcell o hk
    · exact World.cell?_of_block (w := w) (hblock k (h.Aok k o hk) e)
  refine ⟨L.at t g v', Lay.at_hd, h.adopt (L' := L.at t g v') (fun k => k = g) hn hlt hos htape hout hsize (fun k hk hg => hblock k hk hg) (fun k o hg => by subst hg; exact hcell o) ?_ (fun k b' x' hg hx' => by subst hg; exact hfree b' x' hx')
    (fun b' hb' => Lay.at_eq hb') (fun _ _ => rfl) ?_ (fun k hk => ?_) (fun b' hb' => (by cases hb'))⟩
  · rintro k rfl
    exact ⟨hog, (ownsRow_lt hown hb).2⟩
  · exact heir Lay.at_ι Lay.at_hd hxl hown h2 h2' (fun i e j c v he hc hv => (h3 i e j c v he hc hv).frame (fun _ _ h => h) hw) (fun i e j c v he hc hv => (h3' i e j c v he hc hv).frame (fun _ _ h => h) hw) hb hA
  · have hk' : ((L.at t g v').hd t).ownBlock = some k := hk
    rw [Lay.at_hd, hb] at hk'
    exact (Option.some.inj hk').symm
/-- The same where there is still no block. -/
theorem Inv.heirs0 (h : Inv w0 A0 N L A T B a w) {t et sz : Nat} {fz : Bool} (hn : B t = none) (hlt : pinned t = false) : ∃ L', L'.hd t = .slice none 0 0 ∧ Inv w0 A0 N L' A T (upd B t (some (.row et sz [] fz))) a w := by
  refine ⟨L.at t w.heap.size (.slice none 0 0), Lay.at_hd, h.adopt (L' := L.at t w.heap.size (.slice none 0 0)) (fun _ => False) hn hlt rfl .rfl' rfl (Nat.le_refl _) (fun _ _ _ => rfl) (fun _ _ h => h.elim) (fun _ h => h.elim) (fun _ _ _ h => h.elim)
    (fun b' hb' => Lay.at_eq hb') (fun _ _ => rfl) ?_ (fun k hk => ?_) (fun b' hb' => (by cases hb'))⟩
  · refine ⟨[], ⟨by simp, .inl ⟨Lay.at_hd, rfl⟩⟩, by simp, by simp, fun g hg => ?_, fun hne => absurd Lay.at_hd hne⟩
    rw [Lay.at_hd] at hg
    simp [Value.ownBlock] at hg
  · have hk' : ((L.at t w.heap.size (.slice none 0 0)).hd t).ownBlock = some k := hk
    rw [Lay.at_hd] at hk'
    simp [Value.ownBlock] at hk'

/-- A matrix out of inner rows that nobody claims. -/
theorem Inv.matHeir (h : Inv w0 A0 N L A T B a w) {w' : World} {t g et ie : Nat} {rows : List (Option (List D))} {xs : List Value} {v' : Value} (sb : Nat → Value) (hn : B t = none) (hlt : pinned t = false)
    (hown : w'.ownsRow w0.B0 et 1 v' rows.length xs)
    (hR : ∀ (i : Nat) es, rows[i]? = some (some es) → xs[i]? = some (sb i) ∧ inRow w0.B0 w A ie (sb i) es)
    (hD : ∀ (i j : Nat) es es' k, rows[i]? = some (some es) → rows[j]? = some (some es') → (sb i).ownBlock = some k → (sb j).ownBlock = some k → i = j)
    (hF : ∀ (i : Nat) es k, rows[i]? = some (some es) → (sb i).ownBlock = some k → k ≠ g ∧ (w0.own k ∧ k < w.heap.size) ∧ (∀ b' x', B b' = some x' → ¬ own L b' x' k) ∧ ∀ o, ¬ A k o)
    (hb : ∀ k, v'.ownBlock = some k → k = g ∧ w0.own g) (hos : w'.os = w.os) (htape : TapeOn w w') (hout : w'.output = w.output) (hsize : w.heap.size ≤ w'.heap.size)
    (hblock : ∀ k, k < w.heap.size → (k ≠ g ∨ v'.ownBlock = none) → w'.heap[k]? = w.heap[k]?) (hA : v'.ownBlock = some g → ∀ o, ¬ A g o) (hfree : v'.ownBlock = some g → ∀ b' x', B b' = some x' → ¬ own L b' x' g) :
    ∃ L', L'.hd t = v' ∧ Inv w0 A0 N L' A T (upd B t (some (.mat et ie 0 rows))) a w' := by
  let L' : Lay := { ι := upd L.ι t g, hd := upd L.hd t v', sub := fun b' k i => if b' = t then sb i else L.sub b' k i, top := upd L.top t 0 }
  have hhd : L'.hd t = v' := upd_same _ _ _
  have hsub : ∀ k i, L'.sub t k i = sb i := fun k i => if_pos rfl
  have hkeep : ∀ k, k < w.heap.size → ¬ v'.ownBlock = some k → w'.heap[k]? = w.heap[k]? := by
    intro k hk hv
    refine hblock k hk ?_
    cases hob : v'.ownBlock with
    | none => exact .inr rfl
    | some k' =>
      left
      rintro rfl
      exact hv (by rw [hob, (hb k' hob).1])
  have hw : ∀ k o, A k o → w'.cell? ⟨k, o, none⟩ = w.cell? ⟨k, o, none⟩ := by
    intro k o hk
    refine World.cell?_of_block (w := w) (hkeep k (h.Aok k o hk) fun hv => ?_)
    have := (hb k hv).1
    subst this
    exact hA hv o hk
  have hclaim : ∀ k, own L' t (.mat et ie 0 rows) k → v'.ownBlock = some k ∨ ∃ (i : Nat) (es : List D), rows[i]? = some (some es) ∧ (sb i).ownBlock = some k := by
    rintro k (hk | ⟨i, es, hi, hk⟩)
    · rw [hhd] at hk; exact .inl hk
    · rw [hsub] at hk; exact .inr ⟨i, es, hi, hk⟩
  refine ⟨L', hhd, h.adopt (L' := L') (fun k => v'.ownBlock = some k ∨ ∃ (i : Nat) (es : List D), rows[i]? = some (some es) ∧ (sb i).ownBlock = some k) hn hlt hos htape hout hsize (fun k hk hg => hkeep k hk fun hv => hg (.inl hv))
    (fun k o _ => hw k o) (fun k hk => ?_) (fun k b' x' hk hx' => ?_) (fun b' hb' => ?_) (fun b' hb' => upd_ne _ _ hb') ?_ hclaim (fun b' hb' => (by cases hb'))⟩
  · rcases hk with hk | ⟨i, es, hi, hk⟩
    · obtain ⟨rfl, h2⟩ := hb k hk
      exact ⟨h2, (ownsRow_lt hown hk).2⟩
    · have := (hF i es k hi hk).2.1
      exact ⟨this.1, by omega⟩
  · rcases hk with hk | ⟨i, es, hi, hk⟩
    · obtain ⟨rfl, h2⟩ := hb k hk
      exact hfree hk b' x' hx'
    · exact (hF i es k hi hk).2.2.1 b' x' hx'
  · refine ⟨upd_ne _ _ hb', upd_ne _ _ hb', Nat.le_of_eq (upd_ne _ _ hb').symm, fun v hv i => if_neg hb'⟩
  · refine ⟨xs, by rw [hhd]; exact hown, fun k hk => ?_, (upd_same _ _ _).symm, fun i es hi => ?_, fun i j es es' k h1 h2 h3 h4 => ?_, fun i es k hi hk => ?_, fun k hk o => ?_⟩
    · rw [hhd] at hk
      rw [(hb k hk).1]
      exact (upd_same _ _ _).symm
    · rw [hsub]
      obtain ⟨k1, k2⟩ := hR i es hi
      exact ⟨k1, inRow_keep k2 (fun _ _ h => h) hw fun k hk => hkeep k (hF i es k hi hk).2.1.2 fun hv => (hF i es k hi hk).1 (hb k hv).1⟩
    · rw [hsub] at h3 h4
      exact hD i j es es' k h1 h2 h3 h4
    · rw [hsub] at hk
      rw [hhd]
      intro hv
      exact (hF i es k hi hk).1 (hb k hv).1
    · rcases hclaim k hk with hk1 | ⟨i, es, hi, hk1⟩
      · have := (hb k hk1).1
        subst this
        exact hA hk1 o
      · exact (hF i es k hi hk1).2.2.2 o

theorem allSome_spec {α : Type} : ∀ {l : List (Option α)} {r : List α}, allSome l = some r → l = r.map some
  | [], r, h => by simp only [allSome] at h; cases h; rfl
  | x :: xs, r, h => by
    simp only [allSome] at h
    split at h
    · rename_i hy
      cases h
      rw [allSome_spec hy]; rfl
    · cases h
theorem srcM_spec {v : AV} {b et ie : Nat} {rows : List (Option (List D))} (h : srcM B v = some (b, et, ie, rows)) : ∃ sz n vv, v = .own b sz n ∧ B b = some (.mat et ie vv rows) := by
  unfold srcM at h
  split at h
  · split at h
    · rename_i hb
      simp only [Option.some.injEq, Prod.mk.injEq] at h
      obtain ⟨rfl, rfl, rfl, rfl⟩ := h
      exact ⟨_, _, _, rfl, hb⟩
    · cases h
  · cases h

/-- A source that is a matrix: its headers, its inner rows; where they lie when its name has gone. -/
structure MatR (w0 : Ent) (L : Lay) (w : World) (A : Sta) (B : Nat → Option Bx) (et ie : Nat) (rows : List (Option (List D))) (u : Value) (sb : Nat → Value) (xs : List Value) : Prop where
  row : w.ownsRow w0.B0 et 1 u rows.length xs
  inn : ∀ (i : Nat) es, rows[i]? = some (some es) → xs[i]? = some (sb i) ∧ inRow w0.B0 w A ie (sb i) es
  dis : ∀ (i j : Nat) es es' k, rows[i]? = some (some es) → rows[j]? = some (some es') → (sb i).ownBlock = some k → (sb j).ownBlock = some k → i = j
  out : ∀ (i : Nat) es k, rows[i]? = some (some es) → (sb i).ownBlock = some k → u.ownBlock ≠ some k
  fI : ∀ (i : Nat) es k, rows[i]? = some (some es) → (sb i).ownBlock = some k → (w0.own k ∧ k < w.heap.size) ∧ (∀ b' x', B b' = some x' → ¬ own L b' x' k) ∧ ∀ o, ¬ A k o
  fO : ∀ k, u.ownBlock = some k → (w0.own k ∧ k < w.heap.size) ∧ (∀ b' x', B b' = some x' → ¬ own L b' x' k) ∧ ∀ o, ¬ A k o
theorem matR (hI : Inv w0 A0 N L A T B a w) {b et ie v : Nat} {rows : List (Option (List D))} (hbx : B b = some (.mat et ie v rows)) {B' : Nat → Option Bx} (hB' : ∀ b' x' g, B' b' = some x' → own L b' x' g → b' ≠ b ∧ ∃ x, B b' = some x ∧ own L b' x g) :
    ∃ xs, MatR w0 L w A B' et ie rows (L.hd b) (L.sub b v) xs := by
  obtain ⟨xs, g1, g2, g3, g4, g5, g6, g7⟩ := hI.bxs b _ hbx
  have fr : ∀ k, own L b (.mat et ie v rows) k → (w0.own k ∧ k < w.heap.size) ∧ (∀ b' x', B' b' = some x' → ¬ own L b' x' k) ∧ ∀ o, ¬ A k o := by
    refine fun k hk => ⟨hI.lo b _ k hbx hk, fun b' x' hx' ho => ?_, g7 k hk⟩
    obtain ⟨h1, y, h2, h3⟩ := hB' b' x' k hx' ho
    exact h1 (hI.inj b' b y _ k h2 hbx h3 hk)
  exact ⟨xs, g1, g4, g5, fun i es k hi hk => g6 i es k hi hk, fun i es k hi hk => fr k (.inr ⟨i, es, hi, hk⟩), fun k hk => fr k (.inl hk)⟩

/-- Headers appended to headers. -/
theorem matAppend (hI : Inv w0 A0 N L A T B a w) {ty type e ie t : Nat} {te : TI} (htu : P.underlying ty = some (.slice e)) (hte : TyOk P e te) (hs1 : te.size = 1) {old : List (Option (List D))} {ns : List (List D)} {us ux : Value} {so sn : Nat → Value} {xs ys : List Value}
    (ho : MatR w0 L w A B e ie old us so xs) (hn : MatR w0 L w A B e ie (ns.map some) ux sn ys)
    (hon : ∀ (i j : Nat) es es' k, old[i]? = some (some es) → (ns.map some)[j]? = some (some es') → (so i).ownBlock = some k → (sn j).ownBlock ≠ some k)
    (hoh : ∀ (i : Nat) es k, (ns.map some)[i]? = some (some es) → (sn i).ownBlock = some k → us.ownBlock ≠ some k)
    (hbound : (old.length + ns.length) * te.bytes ≤ 140737488355328 ∧ old.length + ns.length ≤ 140737488355328 ∧ 0 < ns.length) (hBt : B t = none) (hlt : pinned t = false) :
    ∃ v' w' L', (Builtin.append_ #[ty, ty] type #[us, ux]).run P w = .ok v' w' ∧ L'.hd t = v' ∧ v'.oneCell' = true ∧ Inv w0 A0 N L' A T (upd B t (some (.mat e ie 0 (old ++ ns.map some)))) a w' := by
  obtain ⟨i, z, hi, hi1, hi2, hz, hzm⟩ := hte.info
  have hzs : z.cells.size = 1 := by
    have hl := (zmatchL_rv (L := L) (w := w) (A := A) hzm).1
    rw [hte.zlen, hs1] at hl
    simpa using hl.symm
  have hlenN : (ns.map some).length = ns.length := by simp
  have hny : (ns.map some).length ≠ 0 := by rw [hlenN]; omega
  cases hob : ux.ownBlock with
  | none => exact absurd (ownBlock_none hn.row hob).2 hny
  | some gx =>
    obtain ⟨cap, hux, hcap, hyl, hyc⟩ := ownsRow_cells hn.row hob
    have hget : ∀ (i : Nat) es, ns[i]? = some es → (ns.map some)[i]? = some (some es) := fun i es h => by simp [h]
    have one : ∀ u ∈ ys, u.oneCell' = true := by
      intro u hu
      obtain ⟨j, hj⟩ := List.getElem?_of_mem hu
      have hlt := lt_of_get hj
      have hjn : j < ns.length := by omega
      obtain ⟨h1, h2⟩ := hn.inn j _ (hget j _ (List.getElem?_eq_getElem hjn))
      rw [hj] at h1
      cases h1
      exact h2.1
    obtain ⟨v', w', k1, k2, k3⟩ := append_two (P := P) (w := w) w0.B0 ty type e i z 1 te.bytes htu hi hz (hi1.trans hs1) hi2 hzs us old.length xs ho.row ⟨gx, 0, none⟩ ns.length cap ys (by rw [hyl, hlenN]) (fun j u hj => by
      rw [Addr.add_mid, Nat.zero_add]; exact hyc j u hj) one hbound.2.1 hbound.1 hI.below.b0 hbound.2.2
    rw [hlenN] at hux
    have hrun : (Builtin.append_ #[ty, ty] type #[us, ux]).run P w = .ok v' w' := by rw [hux]; exact k1
    have hone : v'.oneCell' = true := by
      obtain ⟨_, ⟨rfl, _⟩ | ⟨g, cap, cur, rfl, _⟩⟩ := k2 <;> rfl
    have hxl : xs.length = old.length := by rw [ho.row.1, Nat.mul_one]
    let sb : Nat → Value := fun i => if i < old.length then so i else sn (i - old.length)
    have split : ∀ (i : Nat) es, (old ++ ns.map some)[i]? = some (some es) → (i < old.length ∧ old[i]? = some (some es) ∧ sb i = so i) ∨ (old.length ≤ i ∧ (ns.map some)[i - old.length]? = some (some es) ∧ sb i = sn (i - old.length)) := by
      intro i es h
      rcases Nat.lt_or_ge i old.length with hlt | hge
      · rw [List.getElem?_append_left hlt] at h
        exact .inl ⟨hlt, h, if_pos hlt⟩
      · rw [List.getElem?_append_right hge] at h
        exact .inr ⟨hge, h, if_neg (by omega)⟩
    have R : ∀ (i : Nat) es, (old ++ ns.map some)[i]? = some (some es) → (xs ++ ys)[i]? = some (sb i) ∧ inRow w0.B0 w A ie (sb i) es := by
      intro i es h
      rcases split i es h with ⟨h1, h2, h3⟩ | ⟨h1, h2, h3⟩
      · rw [h3, List.getElem?_append_left (by omega)]; exact ho.inn i es h2
      · rw [h3, List.getElem?_append_right (by omega), hxl]; exact hn.inn _ es h2
    have Dj : ∀ (i j : Nat) es es' k, (old ++ ns.map some)[i]? = some (some es) → (old ++ ns.map some)[j]? = some (some es') → (sb i).ownBlock = some k → (sb j).ownBlock = some k → i = j := by
      intro i j es es' k h1 h2 h3 h4
      rcases split i es h1 with ⟨p1, p2, p3⟩ | ⟨p1, p2, p3⟩
      · rcases split j es' h2 with ⟨q1, q2, q3⟩ | ⟨q1, q2, q3⟩
        · exact ho.dis i j es es' k p2 q2 (p3 ▸ h3) (q3 ▸ h4)
        · exact absurd (q3 ▸ h4) (hon i _ es es' k p2 q2 (p3 ▸ h3))
      · rcases split j es' h2 with ⟨q1, q2, q3⟩ | ⟨q1, q2, q3⟩
        · exact absurd (p3 ▸ h3) (hon j _ es' es k q2 p2 (q3 ▸ h4))
        · have := hn.dis _ _ es es' k p2 q2 (p3 ▸ h3) (q3 ▸ h4)
          omega
    have F : ∀ (i : Nat) es k, (old ++ ns.map some)[i]? = some (some es) → (sb i).ownBlock = some k → us.ownBlock ≠ some k ∧ (w0.own k ∧ k < w.heap.size) ∧ (∀ b' x', B b' = some x' → ¬ own L b' x' k) ∧ ∀ o, ¬ A k o := by
      intro i es k h1 h2
      rcases split i es h1 with ⟨p1, p2, p3⟩ | ⟨p1, p2, p3⟩
      · exact ⟨ho.out i es k p2 (p3 ▸ h2), ho.fI i es k p2 (p3 ▸ h2)⟩
      · exact ⟨hoh _ es k p2 (p3 ▸ h2), hn.fI _ es k p2 (p3 ▸ h2)⟩
    have k2' : w'.ownsRow w0.B0 e 1 v' (old ++ ns.map some).length (xs ++ ys) := by rw [List.length_append, hlenN]; exact k2
    rcases k3 with ⟨g, g1, g2, g3, g4, g5, g6, g7, g8⟩ | ⟨g1, g2, g3⟩
    · obtain ⟨f1, f2, f3⟩ := ho.fO g g1
      obtain ⟨L', l1, l2⟩ := hI.matHeir (g := g) sb hBt hlt k2' R Dj (fun i es k h1 h2 => ⟨fun e => (F i es k h1 h2).1 (e ▸ g1), (F i es k h1 h2).2⟩) (fun k hk => by rw [g2] at hk; cases hk; exact ⟨rfl, f1.1⟩) g3 g4 g5 (by omega)
        (fun k _ hk => g7 k (hk.elim id fun hk => by rw [g2] at hk; cases hk)) (fun _ => f3) (fun _ => f2)
      exact ⟨v', w', L', hrun, l1, hone, l2⟩
    · obtain ⟨L', l1, l2⟩ := hI.matHeir (g := w.heap.size) sb hBt hlt k2' R Dj (fun i es k h1 h2 => ⟨fun e => by have := (F i es k h1 h2).2.1.2; omega, (F i es k h1 h2).2⟩) (fun k hk => by rw [g1] at hk; cases hk; exact ⟨rfl, .inl hI.below.size⟩) g2.os g2.on g2.output g2.size
        (fun k hk _ => g2.block k hk) (fun _ o ho => absurd (hI.Aok _ o ho) (by omega)) (fun _ b' x' hx' ho => by have := (hI.lo b' x' _ hx' ho).2; omega)
      exact ⟨v', w', L', hrun, l1, hone, l2⟩

theorem viewE_spec {e sz : Nat} {v : AV} {b lo hi : Nat} {es : List D} {fz : Bool} (h : viewE B e sz v = some (b, lo, hi, es, fz)) : v = .view b sz lo hi ∧ B b = some (.row e sz es fz) := by
  unfold viewE at h
  split at h
  · split at h
    · rename_i hb
      split at h
      · rename_i e1 e2 e3
        have e1 := Nat.eq_of_beq_eq_true e1
        have e2 := Nat.eq_of_beq_eq_true e2
        have e3 := Nat.eq_of_beq_eq_true e3
        simp only [Option.some.injEq, Prod.mk.injEq] at h
        obtain ⟨rfl, rfl, rfl, rfl, rfl⟩ := h
        subst e1; subst e2; subst e3
        exact ⟨rfl, hb⟩
      · cases h
    · cases h
  · cases h
theorem oldRow (P : Program) {dr : Bool} {b e sz : Nat} {es : List D} {fz : Bool} (hI : Inv w0 A0 N L A T B a w) (hbx : B b = some (.row e sz es fz)) (h1 : (L.hd b).oneCell' = true) {dst : Option Nat} {rest : List (Nat × Option Bx)} {T1 : Nat → AV} {B1 : Nat → Option Bx}
    (hu : UpsR dst (kil dr b :: rest) T B T1 B1) : ∃ Tk Bk, Inv w0 A0 N L A Tk Bk a w ∧ UpsR dst rest Tk Bk T1 B1 ∧ OldR w0 L w A Bk e sz es fz (L.hd b) := by
  have ho : Out P none (oldK B dr e sz (.own b sz 0) fun es' fz' kl => .need (es' = es ∧ fz' = fz ∧ kl = [kil dr b]) (.ok (.nil 0) [])) (.nil 0) [] := by
    simp only [oldK, hbx, Nat.beq_refl]
    exact .need (by simp) (.ok _ _)
  obtain ⟨es', fz', kl, ho, h⟩ := oldK_out hI (RV.own b sz 0 h1) ho
  cases ho with
  | need hc ho =>
    obtain ⟨rfl, rfl, rfl⟩ := hc
    exact h hu

/-- 'append' to a part of a row that ends where the row ends. -/
theorem append_view (base : Nat) (t ty e : TypeId) (i : TypeInfo) (z : Value) (size bytes : Nat) (ht : P.underlying t = some (.slice e)) (hi : P.info? e = some i) (hz : i.zero = some z)
    (hsize : i.size = size) (hby : i.bytes = bytes) (hzs : z.cells.size = size) (g n C lo : Nat) (xs : List Value) (hown : w.ownsRow base e size (.slice (some ⟨g, 0, none⟩) n C) n xs) (hlo : lo < n)
    (p : Addr) (m c : Nat) (news : List Value) (hl : news.length = m * size) (hnews : ∀ (j : Nat) u, news[j]? = some u → w.cell? (p.add j) = some u) (h1 : ∀ u ∈ news, u.oneCell' = true)
    (h63 : n + m ≤ 140737488355328) (hbytes : (n + m) * bytes ≤ 140737488355328) (hbase : base ≤ w.heap.size) (hm : 0 < m) :
    (n + m ≤ C → ∃ w', (Builtin.append_ #[t, t] ty #[.slice (some ⟨g, lo * size, none⟩) (n - lo) (C - lo), .slice (some p) m c]).run P w = .ok (.slice (some ⟨g, lo * size, none⟩) (n - lo + m) (C - lo)) w' ∧
        w'.ownsRow base e size (.slice (some ⟨g, 0, none⟩) (n + m) C) (n + m) (xs ++ news) ∧ w'.os = w.os ∧ TapeOn w w' ∧ w'.output = w.output ∧ w'.heap.size = w.heap.size ∧ (∀ k, k ≠ g → w'.heap[k]? = w.heap[k]?) ∧
        ∀ o, o < n * size → w'.cell? ⟨g, o, none⟩ = w.cell? ⟨g, o, none⟩) ∧
    (C < n + m → ∃ v' w', (Builtin.append_ #[t, t] ty #[.slice (some ⟨g, lo * size, none⟩) (n - lo) (C - lo), .slice (some p) m c]).run P w = .ok v' w' ∧ w'.ownsRow base e size v' (n - lo + m) (xs.drop (lo * size) ++ news) ∧
        v'.ownBlock = some w.heap.size ∧ BelowD w w') := by
  subst hsize; subst hby
  have hown0 := hown
  obtain ⟨hxl, ⟨h0, _⟩ | ⟨g', cap, cur, hv, hbg, hg, hnc, hcm, hcs, htake⟩⟩ := hown0
  · cases h0
  cases hv
  constructor
  · intro hroom
    obtain ⟨v', w', k1, k2, k3⟩ := append_two (P := P) base t ty e i z i.size i.bytes ht hi hz rfl rfl hzs _ n xs hown p m c news hl hnews h1 h63 hbytes hbase hm
    have hfit : n * i.size + news.length ≤ cur.size := by rw [hl, hcs, ← Nat.add_mul]; exact Nat.mul_le_mul_right _ hroom
    have cellS : ∀ j, j < news.length → (w.cell? ⟨g, n * i.size + j, none⟩).isSome = true := by
      intro j hj
      rw [cell_of_row w g _ cur e (0, 0) hg, Array.getElem?_eq_getElem (by omega)]
      rfl
    have frz : ∀ j, w.frozen? ⟨g, j, none⟩ = false := by intro j; simp [World.frozen?, hg]
    have A1 := run_append_room_cells (P := P) w t ty e i ht hi g 0 n C p m c news hl hnews h1 hroom (by simpa using cellS) (fun j _ => frz _)
    have hoff : lo * i.size + (n - lo) * i.size = n * i.size := by rw [← Nat.add_mul]; congr 1; omega
    have A2 := run_append_room_cells (P := P) w t ty e i ht hi g (lo * i.size) (n - lo) (C - lo) p m c news hl hnews h1 (by omega) (by rw [hoff]; exact cellS) (fun j _ => frz _)
    rw [A1] at k1
    cases k1
    rw [hoff] at A2
    rw [Nat.zero_add] at k2 k3
    refine ⟨_, A2, k2, ?_⟩
    rcases k3 with ⟨g1, q1, _, rest⟩ | ⟨q1, _⟩
    · cases q1
      exact rest
    · have q1 : g = w.heap.size := Option.some.inj q1
      have hgs : g < w.heap.size := (Array.getElem?_eq_some_iff.1 hg).1
      omega
  · intro hgt
    have hxd : (xs.drop (lo * i.size)).length = (n - lo) * i.size := by rw [List.length_drop, hxl, ← Nat.sub_mul]
    have holds : ∀ j u, (xs.drop (lo * i.size))[j]? = some u → w.cell? ((⟨g, lo * i.size, none⟩ : Addr).add j) = some u := by
      intro j u hj
      rw [List.getElem?_drop] at hj
      have := hown.cells (g := g) rfl _ _ hj
      simpa [Addr.add_lit] using this
    have hb' : (n - lo + m) * i.bytes ≤ 140737488355328 := Nat.le_trans (Nat.mul_le_mul_right _ (by omega)) hbytes
    have hr := run_append_grow (P := P) w t ty e i z ht hi hz ⟨g, lo * i.size, none⟩ (n - lo) (C - lo) _ hxd holds p m c news hl hnews (by omega) (by omega) (growslice_fits (by omega) hb')
    have hlen : (xs.drop (lo * i.size) ++ news).length = (n - lo + m) * i.size := by rw [List.length_append, hxd, hl, Nat.add_mul]
    have hge := grownCap_ge w (n - lo + m) (C - lo) e
    have hcm : grownCap w (n - lo + m) (C - lo) e ≤ maxLen := grownCap_le_maxLen w (n - lo + m) (C - lo) e (by simp only [maxLen]; omega)
    refine ⟨_, _, hr, ⟨hlen, .inr ⟨w.heap.size, _, _, rfl, hbase, heap_new w.drew _, hge, hcm, ?_, ?_⟩⟩, rfl, ⟨((Below.refl _ w).drew).alloc (Nat.le_refl _) _, Nat.le_succ _⟩⟩
    · simp only [Array.size_append, List.size_toArray, size_zeroCells, hzs, hxd, hl, ← Nat.add_mul]
      congr 1
      omega
    · simp only [Array.toList_append, List.append_assoc]
      rw [← List.append_assoc, ← hlen]
      exact List.take_left

theorem s_append (hS : TysOk P S) {dst type pos after guard} (args : Array Operand) (argTypes : Array TypeId) : Sound P S ⟨dst, .call { callee := .builtin .append, args := args, argTypes := argTypes }, type, pos, after, guard⟩ := by
  refine ⟨?_⟩
  intro w0 A0 N L A T B a w v ups T1 B1 T2 K Q oc dr hoc hI ho hu hp hK
  simp only [eff] at ho
  split at ho
  · rename_i t sv xv ty ty' hargs htys
    split at ho
    · rename_i ti hty ht
      have hty := Nat.eq_of_beq_eq_true hty
      subst hty
      have ht := hS _ _ ht
      split at ho
      · rename_i e hund
        have htu : P.underlying ty = some (.slice e) := by rw [ht.und, hund]
        split at ho
        · rename_i te hte
          have hte := hS _ _ hte
          split at ho
          · cases ho
          · rename_i sz hsz
            obtain ⟨s, x, rfl, hs, hx⟩ := map_two hargs
            have hargT : argTypes = #[ty, ty] := by
              obtain ⟨l⟩ := argTypes
              simp only at htys
              rw [htys]
            subst hargT
            have hsv := ev_rv hI s
            have hxv := ev_rv hI x
            rw [hs] at hsv
            rw [hx] at hxv
            have close : ∀ v' w' L' n, (Builtin.append_ #[ty, ty] type #[a.eval s, a.eval x]).run P w = .ok v' w' → L'.hd t = v' → v'.oneCell' = true → v = .own t (sz + 1) n →
                Inv w0 A0 N L' A T1 B1 a w' → Oper.wp P ⟨some t, .call { callee := .builtin .append, args := #[s, x], argTypes := #[ty, ty] }, type, pos, after, guard⟩ a w K Q := by
              intro v' w' L' n hr hl h1 hv hI'
              refine zarr (run_call_builtin (f := Builtin.append_) (fun _ _ => rfl) (by simpa using hr)) (hK _ _ _ _ (fin hI' ?_ hp))
              subst hl
              rw [hv]
              exact .own _ _ _ h1
            split at ho
            · rename_i c et ie new hsm
              obtain ⟨szc, nc, vc, rfl, hcx⟩ := srcM_spec hsm
              have hxv := rv_own hxv
              split at ho
              · rename_i old kill ns he hom hns
                have he := Nat.eq_of_beq_eq_true he
                subst he
                have hns := allSome_spec hns
                subst hns
                cases ho with
                | need hbound ho =>
                  cases ho
                  have hs1 : te.size = 1 := hsz
                  unfold oldM at hom
                  split at hom
                  · simp only [Option.some.injEq, Prod.mk.injEq] at hom
                    obtain ⟨rfl, rfl⟩ := hom
                    rw [List.nil_append] at hu
                    obtain ⟨Tk, Bk, hIk, hu, inv1, -⟩ := kil_step hI (by rw [hcx]; simp) hu
                    obtain ⟨rfl, rfl, hnone, hlt, _⟩ := upsOneNew rfl hu
                    obtain ⟨ys, hm⟩ := matR hI hcx (B' := Bk) inv1
                    have hnil : a.eval s = .slice none 0 0 := rv_nil hsv
                    obtain ⟨v', w', L', q1, q2, q3, q4⟩ := matAppend (type := type) hIk htu hte hs1 (old := []) (us := .slice none 0 0) (so := fun _ => undef) (xs := []) ⟨⟨by simp, .inl ⟨rfl, rfl⟩⟩, by simp, by simp, by simp, by simp, fun k hk => by simp [Value.ownBlock] at hk⟩ hm (by simp)
                      (fun i es k _ _ hk => by simp [Value.ownBlock] at hk) hbound hnone hlt
                    exact close v' w' L' _ (by rw [hnil, hxv]; exact q1) q2 q3 rfl q4
                  · rename_i b szb nb
                    split at hom
                    · rename_i et' ie' vb rows hbx
                      split at hom
                      · rename_i e1 e2 e3
                        have e1 := Nat.eq_of_beq_eq_true e1
                        have e2 := Nat.eq_of_beq_eq_true e2
                        subst e1; subst e2
                        have hbc : b ≠ c := fun e => by rw [e, Nat.beq_refl] at e3; cases e3
                        simp only [Option.some.injEq, Prod.mk.injEq] at hom
                        obtain ⟨rfl, rfl⟩ := hom
                        obtain ⟨T1k, B1k, hI1, hu, inv1, hne1⟩ := kil_step hI (by rw [hbx]; simp) hu
                        obtain ⟨Tk, Bk, hIk, hu, inv2, -⟩ := kil_step hI1 (hne1 c (Ne.symm hbc) (by rw [hcx]; simp)) hu
                        obtain ⟨rfl, rfl, hnone, hlt, _⟩ := upsOneNew rfl hu
                        obtain ⟨xs, hmo⟩ := matR hI hbx (B' := Bk) fun b' x' g hx' ho => by
                          obtain ⟨h1, y, h2, h3⟩ := inv2 b' x' g hx' ho
                          exact inv1 b' y g h2 h3
                        obtain ⟨ys, hmn⟩ := matR hI hcx (B' := Bk) fun b' x' g hx' ho => by
                          obtain ⟨h1, y, h2, h3⟩ := inv2 b' x' g hx' ho
                          exact ⟨h1, (inv1 b' y g h2 h3).2⟩
                        obtain ⟨v', w', L', q1, q2, q3, q4⟩ := matAppend (type := type) hIk htu hte hs1 hmo hmn
                          (fun i j es es' k h1 h2 h3 h4 => hbc (hI.inj b c _ _ k hbx hcx (.inr ⟨i, es, h1, h3⟩) (.inr ⟨j, es', h2, h4⟩)))
                          (fun i es k h1 h2 h3 => hbc (hI.inj b c _ _ k hbx hcx (.inl h3) (.inr ⟨i, es, h1, h2⟩))) hbound hnone hlt
                        exact close v' w' L' _ (by rw [rv_own hsv, hxv]; exact q1) q2 q3 rfl q4
                      · cases hom
                    · cases hom
                  · cases hom
              · cases ho
            · split at ho
              · rename_i b lo hi' es fz hve
                obtain ⟨rfl, hbx⟩ := viewE_spec hve
                obtain ⟨new, ho2, hsrc⟩ := srcK_out hI hxv ho
                clear ho
                cases ho2 with
                | need hbound ho2 =>
                obtain ⟨rfl, hb1, hb2, hpos⟩ := hbound
                obtain ⟨g, n, C, hh, ⟨hlo, hhi, hnC⟩, hse⟩ := rv_view2 hsv
                obtain ⟨i, z, hi, hi1, hi2, hz, hzm⟩ := hte.info
                have hzs : z.cells.size = sz + 1 := by
                  have hl := (zmatchL_rv (L := L) (w := w) (A := A) hzm).1
                  rw [hte.zlen, hsz] at hl
                  simpa using hl.symm
                have hsrc' : ∃ g o c, a.eval x = .slice (some ⟨g, o, none⟩) new.length c ∧ ∀ (i : Nat) e (j : Nat) c, new[i]? = some e → e.cells[j]? = some c → ∃ u, w.cell? ⟨g, o + i * (sz + 1) + j, none⟩ = some u ∧ Rep w A c u := by
                  rcases hsrc.at_ with ⟨h, _⟩ | h
                  · rw [h] at hpos; exact absurd hpos (by simp)
                  · exact h
                obtain ⟨g0, o0, c0, hxe, hcells⟩ := hsrc'
                obtain ⟨news, n1, n2, n3, n4⟩ := flatten hsrc.hsz hcells
                have hnl : nilV a ⟨some t, .call { callee := .builtin .append, args := #[s, x], argTypes := #[ty, ty] }, type, pos, after, guard⟩ = Nat.ble (es.length - lo + new.length) (C - lo) := by
                  simp only [nilV, hse, hxe]
                have core : ∀ {rest T1' B1'}, UpsR (some t) (kil dr b :: rest) T B T1' B1' → ∃ Tk Bk xs, Inv w0 A0 N L A Tk Bk a w ∧ UpsR (some t) rest Tk Bk T1' B1' ∧ n = es.length ∧
                    w.ownsRow w0.B0 e (sz + 1) (.slice (some ⟨g, 0, none⟩) n C) n xs ∧ (∀ (i : Nat) e, es[i]? = some e → e.cells.length = sz + 1 ∧ e.flat = true) ∧
                    (∀ (i : Nat) e (j : Nat) c v, es[i]? = some e → e.cells[j]? = some c → xs[i * (sz + 1) + j]? = some v → Rep w A c v) ∧
                    ((w0.own g ∧ g < w.heap.size) ∧ (∀ b' x', Bk b' = some x' → ¬ own L b' x' g) ∧ ∀ o, A g o → fz = true ∧ o < es.length * (sz + 1)) := by
                  intro rest T1' B1' hu
                  obtain ⟨Tk, Bk, hIk, hu, hOld⟩ := oldRow P hI hbx (by rw [hh]; rfl) hu
                  obtain ⟨xs, hown, h2, h3⟩ := hOld.row
                  have hfr := hOld.free g (by rw [hh]; rfl)
                  rw [hh] at hown
                  have hne : n = es.length := by rcases hown.2 with ⟨h, _⟩ | ⟨_, _, _, h, _⟩ <;> cases h; rfl
                  exact ⟨Tk, Bk, xs, hIk, hu, hne, by rw [hne] at hown ⊢; exact hown, h2, h3, hfr⟩
                have fin2 : ∀ {v' w' L' T1' B1' v T2'}, (Builtin.append_ #[ty, ty] type #[a.eval s, a.eval x]).run P w = .ok v' w' → Inv w0 A0 N L' A T1' B1' a w' → RV L' w' A v v' → PutR N (some t) v T1' B1' T2' →
                    (∀ L' A' a' w', Inv w0 A0 N L' A' T2' B1' a' w' → K a' w') → Oper.wp P ⟨some t, .call { callee := .builtin .append, args := #[s, x], argTypes := #[ty, ty] }, type, pos, after, guard⟩ a w K Q := by
                  intro v' w' L' T1' B1' v T2' hr hI' hv hp hK
                  exact zarr (run_call_builtin (f := Builtin.append_) (fun _ _ => rfl) (by simpa using hr)) (hK _ _ _ _ (fin hI' hv hp))
                cases ho2 with
                | nilY hw hn he ho2 =>
                  cases ho2
                  rw [hoc] at hw; cases hw
                  replace hn : nilV a ⟨some t, .call { callee := .builtin .append, args := #[s, x], argTypes := #[ty, ty] }, type, pos, after, guard⟩ = true := hn
                  rw [hnl] at hn
                  have hn := Nat.le_of_ble_eq_true hn
                  obtain ⟨Tk, Bk, xs, hIk, hu, rfl, hown, h2, h3, f1, f2, f3⟩ := core hu
                  obtain ⟨rfl, rfl, hnt, hlt, _⟩ := upsOneNew rfl hu
                  obtain ⟨w', k1, m3, g3, g4, g5, g6, g7, g8⟩ := (append_view (P := P) (w := w) w0.B0 ty type e i z (sz + 1) te.bytes htu hi hz (hi1.trans hsz) hi2 hzs g es.length C lo xs hown hlo ⟨g0, o0, none⟩ new.length c0 news n1 n2 n3
                    hb2 hb1 hI.below.b0 hpos).1 (by omega)
                  obtain ⟨L', l1, l2⟩ := hIk.heirs (g := g) (fz := fz) (es := es) (xs := xs) hnt hlt hown.1 m3 h2 hsrc.hsz h3 n4 rfl g3 g4 g5 (by omega) (fun k _ hk => g7 k hk) (fun o ho => g8 o (f3 o ho).2) f3 f2 f1.1
                  have hv := RV.view (w := w') (A := A) t (sz + 1) lo (es.length + new.length) g (es.length + new.length) C l1 ⟨by omega, Nat.le_refl _, by omega⟩
                  rw [show es.length + new.length - lo = es.length - lo + new.length by omega] at hv
                  exact fin2 (by rw [hse, hxe]; exact k1) l2 hv hp hK
                | nilN hw hn ho2 =>
                  cases ho2
                  rw [hoc] at hw; cases hw
                  have hn : nilV a ⟨some t, .call { callee := .builtin .append, args := #[s, x], argTypes := #[ty, ty] }, type, pos, after, guard⟩ = false := hn.elim id fun h => absurd rfl h
                  rw [hnl] at hn
                  have hn : ¬ (es.length - lo + new.length ≤ C - lo) := fun h => by rw [Nat.ble_eq_true_of_le h] at hn; cases hn
                  obtain ⟨Tk, Bk, xs, hIk, hu, rfl, hown, h2, h3, f1, f2, f3⟩ := core hu
                  obtain ⟨rfl, rfl, hnt, hlt, _⟩ := upsOneNew rfl hu
                  obtain ⟨v', w', k1, m3, g1, g2⟩ := (append_view (P := P) (w := w) w0.B0 ty type e i z (sz + 1) te.bytes htu hi hz (hi1.trans hsz) hi2 hzs g es.length C lo xs hown hlo ⟨g0, o0, none⟩ new.length c0 news n1 n2 n3
                    hb2 hb1 hI.below.b0 hpos).2 (by omega)
                  have hdl : (es.drop lo).length = es.length - lo := List.length_drop
                  obtain ⟨L', l1, l2⟩ := hIk.heirs (g := w.heap.size) (fz := false) (es := es.drop lo) (xs := xs.drop (lo * (sz + 1))) hnt hlt (by rw [List.length_drop, hown.1, hdl, Nat.sub_mul]) (by rw [hdl]; exact m3)
                    (fun i e he => h2 (lo + i) e (by rw [← List.getElem?_drop]; exact he)) hsrc.hsz
                    (fun i e j c v he hc hv => h3 (lo + i) e j c v (by rw [← List.getElem?_drop]; exact he) hc (by rw [List.getElem?_drop] at hv; rw [← hv, Nat.add_mul, Nat.add_assoc])) n4 g1 g2.os g2.on g2.output g2.size (fun k hk _ => g2.block k hk)
                    (fun o ho => absurd (hI.Aok _ o ho) (by omega)) (fun o ho => absurd (hI.Aok _ o ho) (by omega)) (fun b' x' hx' hk => by have := (hIk.lo b' x' _ hx' hk).2; omega) (.inl hI.below.size)
                  refine fin2 (by rw [hse, hxe]; exact k1) l2 ?_ hp hK
                  subst l1
                  refine .own _ _ _ ?_
                  obtain ⟨_, ⟨h, _⟩ | ⟨_, _, _, h, _⟩⟩ := m3 <;> rw [h] <;> rfl
              obtain ⟨old, fz, kill, ho, hold⟩ := oldK_out hI hsv ho
              obtain ⟨new, ho, hsrc⟩ := srcK_out hI hxv ho
              cases ho with
              | need hbound ho =>
                cases ho
                obtain ⟨Tk, Bk, hIk, hu, hOld⟩ := hold hu
                obtain ⟨rfl, rfl, hn, hlt, _⟩ := upsOneNew rfl hu
                obtain ⟨xs, hown, h2, h3⟩ := hOld.row
                obtain ⟨i, z, hi, hi1, hi2, hz, hzm⟩ := hte.info
                have hzs : z.cells.size = sz + 1 := by
                  have hl := (zmatchL_rv (L := L) (w := w) (A := A) hzm).1
                  rw [hte.zlen, hsz] at hl
                  simpa using hl.symm
                have onev : ∀ {base n : Nat} {v' : Value} {w' : World} {xs : List Value}, w'.ownsRow base e (sz + 1) v' n xs → v'.oneCell' = true := by
                  rintro base n v' w' xs ⟨_, ⟨rfl, _⟩ | ⟨g, cap, cur, rfl, _⟩⟩ <;> rfl
                -- the source: nothing, or some elements
                have hsrc' : new = [] ∧ (∃ p c, a.eval x = .slice p 0 c) ∨ 0 < new.length ∧ ∃ g o c, a.eval x = .slice (some ⟨g, o, none⟩) new.length c ∧
                    ∀ (i : Nat) e (j : Nat) c, new[i]? = some e → e.cells[j]? = some c → ∃ u, w.cell? ⟨g, o + i * (sz + 1) + j, none⟩ = some u ∧ Rep w A c u := by
                  rcases hsrc.at_ with h | ⟨g, o, c, h1, h2⟩
                  · exact .inl h
                  · rcases Nat.eq_zero_or_pos new.length with h0 | h0
                    · exact .inl ⟨List.eq_nil_of_length_eq_zero h0, _, c, by rw [h1, h0]⟩
                    · exact .inr ⟨h0, g, o, c, h1, h2⟩
                rcases hsrc' with ⟨rfl, p, c, hxe⟩ | ⟨hpos, g0, o0, c0, hxe, hcells⟩
                · have hr := run_append_none (P := P) (w := w) ty type e i (sz + 1) htu hi _ _ _ _ hown p c
                  rw [← hxe] at hr
                  cases hob : (a.eval s).ownBlock with
                  | none =>
                    obtain ⟨e1, e2⟩ := ownBlock_none hown hob
                    have e3 : old = [] := List.eq_nil_of_length_eq_zero e2
                    subst e3
                    obtain ⟨L', l1, l2⟩ := hIk.heirs0 (et := e) (sz := sz + 1) (fz := fz) hn hlt
                    exact close _ w L' _ hr (by rw [l1, e1]) (by rw [e1]; rfl) rfl l2
                  | some g =>
                    obtain ⟨f1, f2, f3⟩ := hOld.free g hob
                    obtain ⟨L', l1, l2⟩ := hIk.heirs (w' := w) (g := g) (fz := fz) (es := old) (new := []) (news := []) (xs := xs) (v' := a.eval s) hn hlt hown.1 (by simpa using hown) h2 (by simp) h3 (by simp) hob rfl .rfl' rfl (Nat.le_refl _)
                      (fun _ _ _ => rfl) (fun _ _ => rfl) f3 f2 f1.1
                    exact close _ w L' _ hr l1 (onev hown) rfl l2
                · obtain ⟨news, n1, n2, n3, n4⟩ := flatten hsrc.hsz hcells
                  obtain ⟨v', w', k1, m3, m4⟩ := append_two (P := P) (w := w) w0.B0 ty type e i z (sz + 1) te.bytes htu hi hz (hi1.trans hsz) hi2 hzs (a.eval s) old.length xs hown ⟨g0, o0, none⟩ new.length c0 news n1 n2 n3
                    hbound.2 hbound.1 hI.below.b0 hpos
                  have m2 : (Builtin.append_ #[ty, ty] type #[a.eval s, a.eval x]).run P w = .ok v' w' := by rw [hxe]; exact k1
                  rcases m4 with ⟨g, g1, g2, g3, g4, g5, g6, g7, g8⟩ | ⟨g1, g2, g3⟩
                  · obtain ⟨f1, f2, f3⟩ := hOld.free g g1
                    obtain ⟨L', l1, l2⟩ := hIk.heirs (g := g) (fz := fz) (es := old) (xs := xs) hn hlt hown.1 m3 h2 hsrc.hsz h3 n4 g2 g3 g4 g5 (by omega) (fun k _ hk => g7 k hk) (fun o ho => g8 o (f3 o ho).2) f3 f2 f1.1
                    exact close v' w' L' _ m2 l1 (onev m3) rfl l2
                  · obtain ⟨L', l1, l2⟩ := hIk.heirs (g := w.heap.size) (fz := fz) (es := old) (xs := xs) hn hlt hown.1 m3 h2 hsrc.hsz h3 n4 g1 g2.os g2.on g2.output g2.size (fun k hk _ => g2.block k hk)
                      (fun o ho => absurd (hI.Aok _ o ho) (by omega)) (fun o ho => absurd (hI.Aok _ o ho) (by omega)) (fun b' x' hx' hk => by have := (hIk.lo b' x' _ hx' hk).2; omega) (.inl hI.below.size)
                    exact close v' w' L' _ m2 l1 (onev m3) rfl l2
        · cases ho
      · cases ho
    · cases ho
  · cases ho
end
end Go.Vm
end
