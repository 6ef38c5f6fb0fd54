/- Each operation, fifth part: slices of strings and lists, len, min, max, append, make. -/
import Derived.Test.YticnipadahihhaaVmH
import Derived.Laws.Append
import Derived.Laws.AppendOwn
import Derived.Laws.MakeOwn
namespace Go.Vm
open Go.RowKit (Below)
section
variable {P : Program} {S : Tys} {oc : Option Orc}
variable {w0 : Ent} {A0 : Sta} {N : Nat} {L : Lay} {A : Sta} {T : Nat → AV} {B : Nat → Option Bx} {a : Act} {w : World}

theorem loI_out {x : Option Operand} {k : Int → Res} {v : AV} {ups} (hI : Inv w0 A0 N L A T B a w) (ho : Out P oc (loI (x.map (evA T)) k) v ups) :
    ∃ n : Int, Out P oc (k n) v ups ∧ ((x.map a.eval = none ∧ n = 0) ∨ ∃ ik, x.map a.eval = some (.int ik n)) := by
  cases x with
  | none => exact ⟨0, ho, .inl ⟨rfl, rfl⟩⟩
  | some x =>
    have hx := ev_rv hI x
    simp only [Option.map_some, loI] at ho
    split at ho
    · rename_i h; cases h
    · rename_i ik n h
      simp only [Option.some.injEq] at h
      rw [h] at hx
      exact ⟨_, ho, .inr ⟨ik, by rw [Option.map_some, rv_int hx]⟩⟩
    · cases ho
theorem hiI_out {len : Nat} {x : Option Operand} {k : Int → Res} {v : AV} {ups} (hI : Inv w0 A0 N L A T B a w) (ho : Out P oc (hiI len (x.map (evA T)) k) v ups) :
    ∃ n : Int, Out P oc (k n) v ups ∧ ((x.map a.eval = none ∧ n = len) ∨ ∃ ik, x.map a.eval = some (.int ik n)) := by
  cases x with
  | none => exact ⟨len, ho, .inl ⟨rfl, rfl⟩⟩
  | some x =>
    have hx := ev_rv hI x
    simp only [Option.map_some, hiI] at ho
    split at ho
    · rename_i h; cases h
    · rename_i ik n h
      simp only [Option.some.injEq] at h
      rw [h] at hx
      exact ⟨_, ho, .inr ⟨ik, by rw [Option.map_some, rv_int hx]⟩⟩
    · cases ho
theorem run_bounds {isSlice : Bool} {len cap : Nat} {lo hi : Option Value} {l h : Int} (hlo : (lo = none ∧ l = 0) ∨ ∃ ik, lo = some (.int ik l)) (hhi : (hi = none ∧ h = len) ∨ ∃ ik, hi = some (.int ik h))
    (h0 : 0 ≤ l ∧ l ≤ h ∧ h ≤ (len : Int)) (hc : len ≤ cap) : (Instr.sliceBounds isSlice len cap lo hi none).run P w = .ok (l.toNat, h.toNat, cap) w := by
  have hb : ∀ (ik : IntKind) (n : Int) (y : Nat) (code : BoundsCode), 0 ≤ n ∧ n ≤ (y : Int) → (Instr.sliceBound (.int ik n) y code).run P w = .ok n.toNat w := by
    intro ik n y code hn
    simp [Instr.sliceBound, asIntOf, hn]
  have c2 : 0 ≤ h ∧ h ≤ (cap : Int) := by omega
  have c3 : 0 ≤ l ∧ l ≤ (h.toNat : Int) := by omega
  rcases hhi with ⟨rfl, rfl⟩ | ⟨ik, rfl⟩
  · rcases hlo with ⟨rfl, rfl⟩ | ⟨ik', rfl⟩
    · simp [Instr.sliceBounds]
    · have f := hb ik' l len .sliceB (by omega)
      simp [Instr.sliceBounds, f]
  · have g1 := hb ik h cap .sliceAcap c2
    have g2 := hb ik h cap .sliceAlen c2
    rcases hlo with ⟨rfl, rfl⟩ | ⟨ik', rfl⟩
    · cases isSlice <;> simp [Instr.sliceBounds, g1, g2]
    · have f := hb ik' l h.toNat .sliceB c3
      cases isSlice <;> simp [Instr.sliceBounds, f, g1, g2]

theorem rv_view {b sz lo hi : Nat} {u : Value} (h : RV L w A (.view b sz lo hi) u) : ∃ g cap, (L.hd b).ownBlock = some g ∧ u = .slice (some ⟨g, lo * sz, none⟩) (hi - lo) cap := by
  cases h with
  | view _ _ _ _ g n C hh hb => exact ⟨g, _, by rw [hh]; rfl, rfl⟩
/-- A slice of data is cut. -/
theorem slice_data {t e : TypeId} {te : TI} (htu : P.underlying t = some (.slice e)) (hte : TyOk P e te) {sz : Nat} (hsz : te.size = sz) {es : List D} {u : Value} (hx : RV L w A (.d (.sl sz es)) u) {lo hi : Option Value} {l h : Int}
    (hl : (lo = none ∧ l = 0) ∨ ∃ ik, lo = some (.int ik l)) (hh : (hi = none ∧ h = es.length) ∨ ∃ ik, hi = some (.int ik h)) (h0 : 0 ≤ l ∧ l ≤ h ∧ h ≤ (es.length : Int)) :
    ∃ v', (Instr.sliceAt t u lo hi none).run P w = .ok v' w ∧ RV L w A (.d (.sl sz ((es.take h.toNat).drop l.toNat))) v' := by
  have hlen : ((es.take h.toNat).drop l.toNat).length = h.toNat - l.toNat := by
    rw [List.length_drop, List.length_take]; omega
  have run : ∀ p cap, u = .slice p es.length cap → es.length ≤ cap → (Instr.sliceAt t u lo hi none).run P w = .ok (.slice (if cap = l.toNat then p else p.map (·.add (l.toNat * sz))) (h.toNat - l.toNat) (cap - l.toNat)) w := by
    intro p cap hv hc
    have := run_bounds (P := P) (w := w) (isSlice := true) (cap := cap) hl hh h0 hc
    simp [Instr.sliceAt, Instr.slice, run_underlying htu, hv, this, hte.run_size, hsz]
  cases hnil : (es.take h.toNat).drop l.toNat with
  | nil =>
    rw [hnil] at hlen
    have e0 : h.toNat - l.toNat = 0 := by simpa using hlen.symm
    rcases rv_sl hx with ⟨rfl, p, cap, hv⟩ | ⟨g, o, cap, uu, hv, h1, _⟩
    · exact ⟨_, run p cap hv (Nat.zero_le _), by rw [e0]; exact .d (.slnil _ _ _)⟩
    · exact ⟨_, run _ cap hv h1, by rw [e0]; exact .d (.slnil _ _ _)⟩
  | cons e1 er =>
    rw [hnil] at hlen
    simp only [List.length_cons] at hlen
    rcases rv_sl hx with ⟨rfl, p, cap, hv⟩ | ⟨g, o, cap, uu, hv, h1, h2, h3, h4⟩
    · simp at hnil
    · refine ⟨_, run _ cap hv h1, ?_⟩
      rw [if_neg (by omega), ← hnil]
      have get : ∀ (i : Nat) c, ((es.take h.toNat).drop l.toNat)[i]? = some c → es[l.toNat + i]? = some c := by
        intro i c hc
        rw [List.getElem?_drop, List.getElem?_take] at hc
        split at hc
        · exact hc
        · cases hc
      have hadd : (⟨g, o, none⟩ : Addr).add (l.toNat * sz) = ⟨g, o + l.toNat * sz, none⟩ := Addr.add_mid g o _
      have hlen' : ((es.take h.toNat).drop l.toNat).length = h.toNat - l.toNat := by rw [List.length_drop, List.length_take]; omega
      rw [Option.map_some, hadd, ← hlen']
      have hrow : ∀ i j : Nat, o + l.toNat * sz + i * sz + j = o + (l.toNat + i) * sz + j := by intro i j; rw [Nat.add_mul]; omega
      refine .d (.sl g (o + l.toNat * sz) (fun i j => uu (l.toNat + i) j) (by omega) (fun i e he => h2 _ e (get i e he)) (fun i e j c he hc => ?_) fun i e j c he hc => h4 _ e j c (get i e he) hc)
      rw [hrow]
      exact h3 _ e j c (get i e he) hc
/-- An array is cut. -/
theorem slice_arr {t e : TypeId} {te : TI} {n : Nat} (htu : P.underlying t = some (.array n e)) (hte : TyOk P e te) (hsz : te.size = 1) {es : List D} {g : Nat} (hn : es.length = n) (h1 : ∀ c ∈ es, c.one = true)
    (hc : ∀ (j : Nat) c, es[j]? = some c → A g j ∧ ∃ u, w.cell? ⟨g, j, none⟩ = some u ∧ Rep w A c u) {lo hi : Option Value} {l h : Int}
    (hl : (lo = none ∧ l = 0) ∨ ∃ ik, lo = some (.int ik l)) (hh : (hi = none ∧ h = n) ∨ ∃ ik, hi = some (.int ik h)) (h0 : 0 ≤ l ∧ l ≤ h ∧ h ≤ (n : Int)) :
    ∃ v', (Instr.sliceAt t (.pointer (some ⟨g, 0, none⟩)) lo hi none).run P w = .ok v' w ∧ RV L w A (.d (.sl 1 ((es.take h.toNat).drop l.toNat))) v' := by
  subst hn
  have hlen : ((es.take h.toNat).drop l.toNat).length = h.toNat - l.toNat := by
    rw [List.length_drop, List.length_take]; omega
  have hb := run_bounds (P := P) (w := w) (isSlice := false) (cap := es.length) hl hh h0 (Nat.le_refl _)
  have run : (Instr.sliceAt t (.pointer (some ⟨g, 0, none⟩)) lo hi none).run P w = .ok (.slice (some (if es.length = l.toNat then ⟨g, 0, none⟩ else (⟨g, 0, none⟩ : Addr).add (l.toNat * 1))) (h.toNat - l.toNat) (es.length - l.toNat)) w := by
    simp [Instr.sliceAt, run_underlying htu, Instr.sureAddr, hb, hte.run_size, hsz]
  refine ⟨_, run, ?_⟩
  rcases Nat.eq_zero_or_pos (h.toNat - l.toNat) with e0 | hpos
  · rw [List.eq_nil_of_length_eq_zero (hlen.trans e0), e0]
    exact .d (.slnil _ _ _)
  · rw [if_neg (by omega), ← hlen]
    have hadd : (⟨g, 0, none⟩ : Addr).add (l.toNat * 1) = ⟨g, l.toNat, none⟩ := by
      have := Addr.add_mid g 0 (l.toNat * 1)
      simpa using this
    rw [hadd]
    have get : ∀ (i : Nat) c, ((es.take h.toNat).drop l.toNat)[i]? = some c → es[l.toNat + i]? = some c := by
      intro i c hc
      rw [List.getElem?_drop, List.getElem?_take] at hc
      split at hc
      · exact hc
      · cases hc
    have cell : ∀ (i : Nat) y (j : Nat) c, ((es.take h.toNat).drop l.toNat)[i]? = some y → y.cells[j]? = some c → j = 0 ∧ c = y := by
      intro i y j c hy hc'
      have := h1 y (List.mem_of_getElem? (get i y hy))
      rw [(one_cells this).1] at hc'
      cases j with
      | zero => simp only [List.getElem?_cons_zero, Option.some.injEq] at hc'; exact ⟨rfl, hc'.symm⟩
      | succ j => simp at hc'
    refine .d (.sl g l.toNat (fun i _ => (w.cell? ⟨g, l.toNat + i, none⟩).getD undef) (by omega) (fun i y hy => ?_) (fun i y j c hy hc' => ?_) fun i y j c hy hc' => ?_)
    · obtain ⟨o1, o2⟩ := one_cells (h1 y (List.mem_of_getElem? (get i y hy)))
      exact ⟨by rw [o1]; rfl, o2⟩
    · obtain ⟨rfl, rfl⟩ := cell i y j c hy hc'
      obtain ⟨q1, u, q2, q3⟩ := hc _ _ (get i _ hy)
      rw [Nat.mul_one, Nat.add_zero]
      exact ⟨q1, by rw [q2]; rfl⟩
    · obtain ⟨rfl, rfl⟩ := cell i y j c hy hc'
      obtain ⟨q1, u, q2, q3⟩ := hc _ _ (get i _ hy)
      rw [q2]
      exact q3

theorem own_add0 (g : Nat) (o : Nat) : (⟨g, 0, none⟩ : Addr).add o = ⟨g, o, none⟩ := by
  have := Addr.add_mid g 0 o
  simpa using this
/-- A part of a slice that the call owns. -/
theorem slice_view {t e : TypeId} {te : TI} (htu : P.underlying t = some (.slice e)) (hte : TyOk P e te) {sz : Nat} (hsz : te.size = sz) {base et n : Nat} {v : Value} {xs : List Value} (ho : w.ownsRow base et sz v n xs) {lo hi : Option Value} {l h : Int}
    (hl : (lo = none ∧ l = 0) ∨ ∃ ik, lo = some (.int ik l)) (hh : (hi = none ∧ h = n) ∨ ∃ ik, hi = some (.int ik h)) (h0 : 0 ≤ l ∧ l < h ∧ h ≤ (n : Int)) :
    ∃ g C, (v = .slice (some ⟨g, 0, none⟩) n C ∧ n ≤ C) ∧ (Instr.sliceAt t v lo hi none).run P w = .ok (.slice (some ⟨g, l.toNat * sz, none⟩) (h.toNat - l.toNat) (C - l.toNat)) w := by
  rcases ho.2 with ⟨rfl, rfl⟩ | ⟨g, cap, cur, rfl, _, _, hnc, _⟩
  · omega
  · have := run_bounds (P := P) (w := w) (isSlice := true) (cap := cap) hl hh ⟨h0.1, by omega, h0.2.2⟩ hnc
    refine ⟨g, cap, ⟨rfl, hnc⟩, ?_⟩
    simp [Instr.sliceAt, Instr.slice, run_underlying htu, this, hte.run_size, hsz]
    rw [if_neg (by omega)]
    rw [own_add0]
/-- A part of a part. -/
theorem slice_part {t e : TypeId} {te : TI} (htu : P.underlying t = some (.slice e)) (hte : TyOk P e te) {sz : Nat} (hsz : te.size = sz) {g o len cap : Nat} (hnc : len ≤ cap) {lo hi : Option Value} {l h : Int}
    (hl : (lo = none ∧ l = 0) ∨ ∃ ik, lo = some (.int ik l)) (hh : (hi = none ∧ h = len) ∨ ∃ ik, hi = some (.int ik h)) (h0 : 0 ≤ l ∧ l ≤ h ∧ h ≤ (len : Int)) :
    ∃ a, (l < h → a = (⟨g, o + l.toNat * sz, none⟩ : Addr)) ∧ (Instr.sliceAt t (.slice (some ⟨g, o, none⟩) len cap) lo hi none).run P w = .ok (.slice (some a) (h.toNat - l.toNat) (cap - l.toNat)) w := by
  have := run_bounds (P := P) (w := w) (isSlice := true) (cap := cap) hl hh h0 hnc
  refine ⟨if cap = l.toNat then ⟨g, o, none⟩ else ⟨g, o + l.toNat * sz, none⟩, fun hlt => by rw [if_neg (by omega)], ?_⟩
  simp [Instr.sliceAt, Instr.slice, run_underlying htu, this, hte.run_size, hsz]
  split
  · rfl
  · exact congrArg some (Addr.add_mid g o _)
/-- A slice that the call owns is made shorter. -/
theorem slice_shrink {t e : TypeId} {te : TI} (htu : P.underlying t = some (.slice e)) (hte : TyOk P e te) {sz : Nat} (hsz : te.size = sz) {base et n : Nat} {v : Value} {xs : List Value} (ho : w.ownsRow base et sz v n xs) {lo hi : Option Value} {h : Int}
    (hl : (lo = none ∧ (0 : Int) = 0) ∨ ∃ ik, lo = some (.int ik 0)) (hh : (hi = none ∧ h = n) ∨ ∃ ik, hi = some (.int ik h)) (h0 : 0 ≤ h ∧ h ≤ (n : Int)) :
    ∃ v', (Instr.sliceAt t v lo hi none).run P w = .ok v' w ∧ w.ownsRow base et sz v' h.toNat (xs.take (h.toNat * sz)) ∧ (∀ g, v'.ownBlock = some g → v.ownBlock = some g) ∧ (v' ≠ .slice none 0 0 → v ≠ .slice none 0 0) ∧ Vm.oneV v' = true := by
  have hb : ∀ cap, n ≤ cap → (Instr.sliceBounds true n cap lo hi none).run P w = .ok ((0 : Int).toNat, h.toNat, cap) w := fun cap hc => run_bounds (P := P) (w := w) (isSlice := true) (cap := cap) hl hh ⟨by omega, h0.1, h0.2⟩ hc
  have hlen : (xs.take (h.toNat * sz)).length = h.toNat * sz := by
    rw [List.length_take, ho.1, Nat.min_eq_left (Nat.mul_le_mul_right _ (by omega))]
  rcases ho.2 with ⟨rfl, rfl⟩ | ⟨g, cap, cur, rfl, h1, h2, hnc, h3, h4, h5⟩
  · have := hb 0 (Nat.le_refl _)
    have e : h.toNat = 0 := by omega
    rw [e] at this hlen ⊢
    refine ⟨.slice none 0 0, ?_, ⟨hlen, .inl ⟨rfl, rfl⟩⟩, fun g hg => (by cases hg), fun h _ => h rfl, rfl⟩
    simp [Instr.sliceAt, Instr.slice, run_underlying htu, this, hte.run_size, hsz]
  · have := hb cap hnc
    have hle : h.toNat * sz ≤ n * sz := Nat.mul_le_mul_right _ (by omega)
    refine ⟨.slice (some ⟨g, 0, none⟩) h.toNat cap, ?_, ⟨hlen, .inr ⟨g, cap, cur, rfl, h1, h2, by omega, h3, h4, ?_⟩⟩, fun g hg => hg, fun _ e => (by cases e), rfl⟩
    · simp [Instr.sliceAt, Instr.slice, run_underlying htu, this, hte.run_size, hsz]
      intro _
      exact own_add0 g 0
    · rw [← h5, List.take_take, Nat.min_eq_left hle]

theorem s_slice (hS : TysOk P S) {dst type pos after guard} (t : TypeId) (x : Operand) (lo hi mx : Option Operand) : Sound P S ⟨dst, .slice t x lo hi mx, type, pos, after, guard⟩ := by
  refine ⟨?_⟩
  intro w0 A0 N L A T B a w v ups T1 B1 T2 K Q oc dr hoc hI ho hu hp hK
  have hx := ev_rv hI x
  simp only [eff] at ho
  split at ho
  · rename_i ti ht
    have ht := hS _ _ ht
    split at ho
    · refine outV hI ho hu hp hK ?_
      rename_i s hu1 hb
      rw [hb] at hx
      have hx := rv_str hx
      have htu : P.underlying t = some .string := by rw [ht.und, hu1]
      obtain ⟨l, ho, hl⟩ := loI_out hI ho
      obtain ⟨h, ho, hh⟩ := hiI_out hI ho
      cases ho with
      | need h0 ho =>
        cases ho
        refine ⟨rfl, .string (s.extract l.toNat h.toNat), ?_, .d (.str _)⟩
        have := run_bounds (P := P) (w := w) (isSlice := false) (cap := s.size) hl hh h0 (Nat.le_refl _)
        simp [execOp, Instr.sliceAt, Instr.slice, run_underlying htu, hx, this]
    · refine outV hI ho hu hp hK ?_
      rename_i e sz es hu1 hb
      rw [hb] at hx
      have htu : P.underlying t = some (.slice e) := by rw [ht.und, hu1]
      split at ho
      · rename_i te hte
        have hte := hS _ _ hte
        split at ho
        · rename_i hsz
          have hsz := Nat.eq_of_beq_eq_true hsz
          obtain ⟨l, ho, hl⟩ := loI_out hI ho
          obtain ⟨h, ho, hh⟩ := hiI_out hI ho
          cases ho with
          | need h0 ho =>
            cases ho
            obtain ⟨v', k1, k2⟩ := slice_data htu hte hsz hx hl hh h0
            exact ⟨rfl, v', by simp [execOp, k1], k2⟩
        · cases ho
      · cases ho
    · rename_i e b sz0 n0 hu1 hb
      rw [hb] at hx
      have hx := rv_own hx
      have htu : P.underlying t = some (.slice e) := by rw [ht.und, hu1]
      split at ho
      · rename_i te hte
        have hte := hS _ _ hte
        split at ho
        · rename_i et sz es fz hbx
          split at ho
          · rename_i hsz
            have hsz := Nat.eq_of_beq_eq_true hsz
            obtain ⟨l, ho, hl⟩ := loI_out hI ho
            obtain ⟨h, ho, hh⟩ := hiI_out hI ho
            cases ho with
            | altL ho =>
              cases ho with
              | need h0 ho =>
                cases ho
                have hTB : T = T1 ∧ B1 = upd B b (some (.row et sz es true)) := by
                  cases fz with
                  | true =>
                    cases hu
                    refine ⟨rfl, funext fun b' => ?_⟩
                    by_cases e : b' = b
                    · subst e; rw [upd_same, hbx]
                    · rw [upd_ne _ _ e]
                  | false =>
                    obtain ⟨rfl, rfl, _⟩ := upsOne hu (by rw [hbx]; simp)
                    exact ⟨rfl, rfl⟩
                obtain ⟨rfl, rfl⟩ := hTB
                obtain ⟨A', hA, hI', hrep⟩ := hI.freezeRow hbx
                obtain ⟨v', k1, k2⟩ := slice_data (L := L) htu hte hsz (.d hrep) hl hh h0
                rw [← hx] at k1
                exact zarr (by simp [execOp, k1]) (hK _ _ _ _ (fin hI' k2 hp))
            | altR ho =>
              obtain ⟨xs, c1, c2, c3, c4, c5⟩ := hI.bxs b _ hbx
              cases ho with
              | altL ho =>
                cases ho with
                | need h0 ho =>
                  cases ho
                  cases hu
                  obtain ⟨g, cap', k0, k1⟩ := slice_view (P := P) htu hte hsz c1 hl hh h0
                  rw [← hx] at k1
                  exact zarr (by simp [execOp, k1]) (hK _ _ _ _ (fin hI (.view b sz _ _ g _ cap' k0.1 (by have := k0.2; omega)) hp))
              | altR ho =>
                cases dst with
                | none => cases ho
                | some t0 =>
                cases fz with
                | true => cases ho
                | false =>
                  simp only at ho
                  cases ho with
                  | need h0 ho =>
                    cases ho
                    obtain ⟨rfl, h0⟩ := h0
                    obtain ⟨v', k1, k2, k3, k4, k5⟩ := slice_shrink (P := P) htu hte hsz c1 hl hh h0
                    rw [← hx] at k1
                    have hne : ∀ {b' : Nat}, B b' ≠ none → B b' ≠ none := id
                    have hTB : T = T1 ∧ B1 = upd (upd B b (some .gone)) t0 (some (.row et sz (es.take h.toNat) false)) ∧ B t0 = none ∧ pinned t0 = false ∧ t0 ≠ b := by
                      cases hu with
                      | new _ _ hb0 => rw [hbx] at hb0; cases hb0
                      | set q1 q2 q3 hu =>
                        cases hu with
                        | set q4 => rw [isNew_slot rfl] at q4; cases q4
                        | new q4 q5 q6 q7 hu =>
                          cases hu
                          have e : t0 ≠ b := by rintro rfl; rw [upd_same] at q6; cases q6
                          rw [upd_ne _ _ e] at q6
                          exact ⟨rfl, rfl, q6, q5, e⟩
                    obtain ⟨rfl, rfl, hBt, hpt, htb⟩ := hTB
                    have hI' : Inv w0 A0 N (L.at t0 (L.ι b) v') A T (upd (upd B b (some .gone)) t0 (some (.row et sz (es.take h.toNat) false))) a w := by
                      have hbt : ∀ b', B b' ≠ none → b' ≠ t0 := fun b' hb' e => hb' (e ▸ hBt)
                      refine hI.turns (fun b' => b' = b ∨ b' = t0) (own L b (.row et sz es false)) rfl .rfl' rfl (Nat.le_refl _) (fun g hg => hI.lo b _ g hbx hg) (fun g b' y hg hk hy hg' => hk (.inl (hI.inj b' b y _ g hy hbx hg' hg)))
                        (fun _ _ _ => rfl) (fun _ _ _ => rfl) (fun _ _ h => h) hI.Aok (fun _ _ h => .inl h) (fun b' hb' => Lay.at_eq (hbt b' hb')) (fun _ _ _ => rfl) (fun b' hk => ?_) (fun b' hb' => ?_) (fun b' hpp hb' => ?_) (fun b' y hk hy => ?_) (fun b1 b2 y1 y2 g hk1 hk2 hy1 hy2 o1 o2 => ?_) (fun b' y b'' hk hy hm => ?_)
                      · rw [upd_ne _ _ fun e => hk (.inr e), upd_ne _ _ fun e => hk (.inl e)]
                      · rw [upd_ne _ _ (hbt b' hb')]
                        by_cases e : b' = b
                        · subst e; rw [upd_same]; simp
                        · rwa [upd_ne _ _ e]
                      · have e : b' ≠ t0 := by rintro rfl; rw [hpt] at hpp; cases hpp
                        rw [upd_ne _ _ e] at hb'
                        by_cases e : b' = b
                        · subst e; rw [hbx]; simp
                        · rwa [upd_ne _ _ e] at hb'
                      · by_cases e : b' = t0
                        · subst e
                          rw [upd_same] at hy
                          cases hy
                          refine ⟨⟨xs.take (h.toNat * sz), ?_, fun i y hy => ?_, fun i y j c u hy hc hu => ?_, fun g hg => ?_, fun hn o ho => ?_⟩, fun g hg => ?_⟩
                          · rw [Lay.at_hd, List.length_take, Nat.min_eq_left (by omega)]; exact k2
                          · rw [List.getElem?_take] at hy
                            split at hy
                            · exact c2 i y hy
                            · cases hy
                          · rw [List.getElem?_take] at hy hu
                            split at hy
                            · split at hu
                              · exact c3 i y j c u hy hc hu
                              · cases hu
                            · cases hy
                          · rw [Lay.at_hd] at hg; rw [Lay.at_ι]; exact c4 g (k3 g hg)
                          · rw [Lay.at_hd] at hn; rw [Lay.at_ι] at ho
                            exact absurd (c5 (k4 hn) o ho).1 (by decide)
                          · have hg : ((L.at b' (L.ι b) v').hd b').ownBlock = some g := hg
                            rw [Lay.at_hd] at hg
                            exact k3 g hg
                        · rw [upd_ne _ _ e] at hy
                          rcases hk with rfl | hk
                          · rw [upd_same] at hy
                            cases hy
                            exact ⟨trivial, fun g hg => hg.elim⟩
                          · exact absurd hk e
                      · have side : ∀ b' y, (b' = b ∨ b' = t0) → upd (upd B b (some .gone)) t0 (some (.row et sz (es.take h.toNat) false)) b' = some y → own (L.at t0 (L.ι b) v') b' y g → b' = t0 := by
                          intro b' y hk hy ho
                          by_cases e : b' = t0
                          · exact e
                          · rw [upd_ne _ _ e] at hy
                            rcases hk with rfl | hk
                            · rw [upd_same] at hy
                              cases hy
                              exact ho.elim
                            · exact absurd hk e
                        rw [side b1 y1 hk1 hy1 o1, side b2 y2 hk2 hy2 o2]
                      · by_cases e : b' = t0
                        · subst e
                          rw [upd_same] at hy
                          cases hy; cases hm
                        · rw [upd_ne _ _ e] at hy
                          rcases hk with rfl | hk
                          · rw [upd_same] at hy
                            cases hy; cases hm
                          · exact absurd hk e
                    refine zarr (u := v') (by simp [execOp, k1]) (hK _ _ _ _ (fin hI' ?_ hp))
                    have := RV.own (L := L.at t0 (L.ι b) v') (w := w) (A := A) t0 sz h.toNat (by rw [Lay.at_hd]; exact k5)
                    rwa [Lay.at_hd] at this
          · cases ho
        · cases ho
      · cases ho
    · rename_i e b sz l0 h0' hu1 hb
      have hcl := ev_cl hI x
      rw [hb] at hx hcl
      obtain ⟨g, nn, C, hh0, hbd, hv⟩ := rv_view2 hx
      have htu : P.underlying t = some (.slice e) := by rw [ht.und, hu1]
      split at ho
      · rename_i te hte
        have hte := hS _ _ hte
        split at ho
        · rename_i hsz
          have hsz := Nat.eq_of_beq_eq_true hsz
          obtain ⟨l, ho, hl⟩ := loI_out hI ho
          obtain ⟨h, ho, hh⟩ := hiI_out hI ho
          cases ho with
          | altL ho =>
            cases ho with
            | need q ho =>
              cases ho
              cases hu
              obtain ⟨ad, ha, k1⟩ := slice_part (P := P) (w := w) (g := g) (o := l0 * sz) (cap := C - l0) htu hte hsz (by omega) hl hh ⟨q.1, by omega, q.2.2⟩
              rw [← hv] at k1
              rw [ha q.2.1, ← Nat.add_mul] at k1
              have key : RV L w A (.view b sz (l0 + l.toNat) (l0 + h.toNat)) (.slice (some ⟨g, (l0 + l.toNat) * sz, none⟩) (l0 + h.toNat - (l0 + l.toNat)) (C - (l0 + l.toNat))) := .view b sz _ _ g nn C hh0 (by omega)
              rw [show l0 + h.toNat - (l0 + l.toNat) = h.toNat - l.toNat by omega, show C - (l0 + l.toNat) = C - l0 - l.toNat by omega] at key
              exact zarr (by simp [execOp, k1]) (hK _ _ _ _ (fin hI key hp))
          | altR ho =>
            cases ho with
            | need q ho =>
              cases ho
              cases hu
              obtain ⟨ad, -, k1⟩ := slice_part (P := P) (w := w) (g := g) (o := l0 * sz) (cap := C - l0) htu hte hsz (by omega) hl hh ⟨q.1, by omega, q.2.2⟩
              rw [← hv] at k1
              have e0 : h.toNat - l.toNat = 0 := by omega
              rw [e0] at k1
              exact zarr (by simp [execOp, k1]) (hK _ _ _ _ (fin hI (.d (.slnil sz (some ad) (C - l0 - l.toNat))) hp))
        · cases ho
      · cases ho
    · rename_i e sz hu1 hb
      rw [hb] at hx
      have hx := rv_nil hx
      have htu : P.underlying t = some (.slice e) := by rw [ht.und, hu1]
      refine outV hI ho hu hp hK ?_
      split at ho
      · rename_i te hte
        have hte := hS _ _ hte
        obtain ⟨l, ho, hl⟩ := loI_out hI ho
        obtain ⟨h, ho, hh⟩ := hiI_out hI ho
        cases ho with
        | need h0 ho =>
          cases ho
          have := run_bounds (P := P) (w := w) (isSlice := true) (cap := 0) hl hh h0 (Nat.le_refl _)
          have e1 : l.toNat = 0 := by omega
          have e2 : h.toNat = 0 := by omega
          rw [e1, e2] at this
          refine ⟨rfl, .slice none 0 0, ?_, .nil _⟩
          simp [execOp, Instr.sliceAt, Instr.slice, run_underlying htu, hx, this, hte.run_size]
      · cases ho
    · rename_i len e b hu1 hb
      rw [hb] at hx
      have hx := rv_ptr hx
      have htu : P.underlying t = some (.array len e) := by rw [ht.und, hu1]
      split at ho
      · rename_i te hte
        have hte := hS _ _ hte
        split at ho
        · rename_i es fz hbx hsz
          obtain ⟨l, ho, hl⟩ := loI_out hI ho
          obtain ⟨h, ho, hh⟩ := hiI_out hI ho
          cases ho with
          | need h0 ho =>
            cases ho
            obtain ⟨h0, hn⟩ := h0
            obtain ⟨rfl, rfl, _⟩ := upsOne hu (by rw [hbx]; simp)
            have hI' := hI.freezeArr hbx
            obtain ⟨C, et, c1, c2, c3, c4, _⟩ := hI'.bxs b _ (upd_same _ _ _)
            obtain ⟨v', k1, k2⟩ := slice_arr (L := L) (g := L.ι b) htu hte hsz hn c3 (fun j c hc => by
              obtain ⟨u, hu⟩ := arr_get (C := C) (j := j) (by rw [c2]; exact lt_of_get hc)
              exact ⟨.inr ⟨rfl, lt_of_get hc⟩, u, by rw [cell_of_row w (L.ι b) j C et (0, 0) c1]; exact hu, c4 j c u hc hu⟩) hl hh h0
            rw [← hx] at k1
            exact zarr (by simp [execOp, k1]) (hK _ _ _ _ (fin hI' k2 hp))
        · cases ho
      · cases ho
    · cases ho
  · cases ho

theorem foldI_spec (f : Int → Int → Int) (g2 : Value → Value → Sem Value) (hg : ∀ x y w, (g2 (.int .i64 x) (.int .i64 y)).run P w = .ok (.int .i64 (f x y)) w) (hI : Inv w0 A0 N L A T B a w) :
    ∀ (l : List Operand) (x z : Int), foldI f x (l.map (evA T)) = some z → (List.foldlM g2 (.int .i64 x) (l.map a.eval)).run P w = .ok (.int .i64 z) w
  | [], x, z, h => by simp only [List.map_nil, foldI] at h; cases h; rfl
  | y :: l, x, z, h => by
    have hy := ev_rv hI y
    simp only [List.map_cons, foldI] at h
    split at h
    · rename_i b hb
      rw [hb] at hy
      have hy := rv_int hy
      simp only [List.map_cons, List.foldlM_cons, Sem.run_bind, hy, hg, Result.andThen_ok]
      exact foldI_spec f g2 hg hI l _ _ h
    · cases h

theorem run_call_builtin {dst type pos after guard} {b : Builtin} {args : Array Operand} {argTypes : Array TypeId} {u : Value} {f : Array TypeId → TypeId → Array Value → Sem Value} {w' : World}
    (hb : ∀ (as : Array Value) (cs : Array Bool), builtin b argTypes type cs as = (do pure (.value (← f argTypes type as)) : Sem Next))
    (hr : (f argTypes type (args.map a.eval)).run P w = .ok u w') :
    (execOp a.eval ⟨dst, .call { callee := .builtin b, args := args, argTypes := argTypes }, type, pos, after, guard⟩).run P w = .ok (.value u) w' := by
  simp only [execOp, resolve, invoke, Sem.run_bind, Sem.run_pure, Result.andThen_ok, hb, hr]

theorem ownsRow_len {base e sz n : Nat} {v : Value} {xs : List Value} (h : w.ownsRow base e sz v n xs) : ∃ p cap, v = .slice p n cap := by
  obtain ⟨_, ⟨rfl, rfl⟩ | ⟨g, cap, cur, rfl, _⟩⟩ := h
  · exact ⟨none, 0, rfl⟩
  · exact ⟨_, cap, rfl⟩
theorem map_two {c : Array Operand} {f : Operand → AV} {x y : AV} (h : c.toList.map f = [x, y]) : ∃ p q, c = #[p, q] ∧ f p = x ∧ f q = y := by
  obtain ⟨l⟩ := c
  match l, h with
  | [p, q], h => simp only [List.map_cons, List.map_nil, List.cons.injEq, and_true] at h; exact ⟨p, q, rfl, h.1, h.2⟩

theorem s_len (hS : TysOk P S) {dst type pos after guard} (args : Array Operand) (argTypes : Array TypeId) : Sound P S ⟨dst, .call { callee := .builtin .len, args := args, argTypes := argTypes }, type, pos, after, guard⟩ := by
  refine ⟨?_⟩
  intro w0 A0 N L A T B a w v ups T1 B1 T2 K Q oc dr hoc hI ho hu hp hK
  simp only [eff] at ho
  refine outV hI ho hu hp hK ?_
  split at ho
  · rename_i vx t tr hargs htys
    obtain ⟨l⟩ := args
    match l, hargs with
    | [x], hargs =>
      simp only [List.map_cons, List.map_nil, List.cons.injEq, and_true] at hargs
      have hx := ev_rv hI x
      rw [hargs] at hx
      have h0 : argTypes[0]? = some t := by rw [← Array.getElem?_toList, htys]; rfl
      split at ho
      · rename_i ti ht
        have ht := hS _ _ ht
        have go : ∀ (n : Int), (Builtin.len_ argTypes type #[a.eval x]).run P w = .ok (.int .i64 n) w →
            ∃ u, (execOp a.eval ⟨dst, .call { callee := .builtin .len, args := #[x], argTypes := argTypes }, type, pos, after, guard⟩).run P w = .ok (.value u) w ∧ RV L w A (.d (.int .i64 n)) u :=
          fun n h => ⟨_, run_call_builtin (f := Builtin.len_) (fun _ _ => rfl) (by simpa using h), .d (.int _ _)⟩
        have slice : ∀ p n c e, ti.und = .slice e → a.eval x = .slice p n c → (Builtin.len_ argTypes type #[a.eval x]).run P w = .ok (.int .i64 (n : Int)) w := by
          intro p n c e hu1 hv
          have htu : P.underlying t = some (.slice e) := by rw [ht.und, hu1]
          simp [Builtin.len_, h0, run_underlying htu, hv, goInt]
        split at ho
        · have hu1 : ∃ e, ti.und = .slice e := ⟨_, by assumption⟩
          obtain ⟨e, hu1⟩ := hu1
          cases ho
          obtain ⟨p, cap, hv⟩ := sl_len hx
          exact ⟨rfl, go _ (slice _ _ _ _ hu1 hv)⟩
        · have hu1 : ∃ e, ti.und = .slice e := ⟨_, by assumption⟩
          obtain ⟨e, hu1⟩ := hu1
          have hx := rv_own hx
          split at ho
          · rename_i et sz' es fz hbx
            cases ho
            obtain ⟨p, cap, hv⟩ := own_len hI hbx
            exact ⟨rfl, go _ (slice _ _ _ _ hu1 (hx.trans hv))⟩
          · rename_i et ie vv rows hbx
            cases ho
            obtain ⟨xs, h1, _⟩ := hI.bxs _ _ hbx
            obtain ⟨p, cap, hv⟩ := ownsRow_len h1
            exact ⟨rfl, go _ (slice _ _ _ _ hu1 (hx.trans hv))⟩
          · cases ho
        · have hu1 : ∃ e, ti.und = .slice e := ⟨_, by assumption⟩
          obtain ⟨e, hu1⟩ := hu1
          have hx := rv_sub hx
          split at ho
          · rename_i et ie vv' rows hbx
            cases ho with
            | need hv ho =>
              subst hv
              cases ho with
              | pickR he ho =>
                cases ho
                obtain ⟨_, ys, k1, _, _⟩ := mat_row hI hbx he
                obtain ⟨p, cap, hv⟩ := ownsRow_len k1
                exact ⟨rfl, go _ (slice _ _ _ _ hu1 (hx.trans hv))⟩
          · cases ho
        · have hu1 : ∃ e, ti.und = .slice e := ⟨_, by assumption⟩
          obtain ⟨e, hu1⟩ := hu1
          cases ho
          exact ⟨rfl, go 0 (slice _ 0 _ _ hu1 (rv_nil hx))⟩
        · have hu1 : ∃ e, ti.und = .slice e := ⟨_, by assumption⟩
          obtain ⟨e, hu1⟩ := hu1
          cases ho
          obtain ⟨g, cap, _, hv⟩ := rv_view hx
          exact ⟨rfl, go _ (slice _ _ _ _ hu1 hv)⟩
        · have hu1 : ∃ e k, ti.und = .map e k := ⟨_, _, by assumption⟩
          obtain ⟨e, k, hu1⟩ := hu1
          split at ho
          · rename_i kt et kd es hbx
            cases ho
            have hv := rv_mp hx
            obtain ⟨E, c, h1, h2, _⟩ := hI.bxs _ _ hbx
            refine ⟨rfl, go _ ?_⟩
            have htu : P.underlying t = some (.map e k) := by rw [ht.und, hu1]
            simp [Builtin.len_, h0, run_underlying htu, hv, goInt, MapKept.run_getObj_map h1, h2]
          · cases ho
        · have hu1 : ti.und = .string := by assumption
          cases ho
          have hx := rv_str hx
          have htu : P.underlying t = some .string := by rw [ht.und, hu1]
          exact ⟨rfl, go _ (by simp [Builtin.len_, h0, run_underlying htu, hx, goInt])⟩
        · cases ho
          refine ⟨rfl, go _ ?_⟩
          have htu := ht.und
          simp [Builtin.len_, run_underlying htu, goInt, *]
        · cases ho
      · cases ho
  · cases ho

theorem s_cap (hS : TysOk P S) {dst type pos after guard} (args : Array Operand) (argTypes : Array TypeId) : Sound P S ⟨dst, .call { callee := .builtin .cap, args := args, argTypes := argTypes }, type, pos, after, guard⟩ := by
  refine ⟨?_⟩
  intro w0 A0 N L A T B a w v ups T1 B1 T2 K Q oc dr hoc hI ho hu hp hK
  simp only [eff] at ho
  refine outV hI ho hu hp hK ?_
  split at ho
  · rename_i vx t tr hargs htys
    obtain ⟨l⟩ := args
    match l, hargs with
    | [x], hargs =>
      simp only [List.map_cons, List.map_nil, List.cons.injEq, and_true] at hargs
      have hx := ev_rv hI x
      rw [hargs] at hx
      have h0 : argTypes[0]? = some t := by rw [← Array.getElem?_toList, htys]; rfl
      split at ho
      · rename_i ti ht
        have ht := hS _ _ ht
        split at ho
        · have hu1 : ∃ e, ti.und = .slice e := ⟨_, by assumption⟩
          obtain ⟨e, hu1⟩ := hu1
          cases ho
          have htu : P.underlying t = some (.slice e) := by rw [ht.und, hu1]
          refine ⟨rfl, _, run_call_builtin (f := Builtin.cap_) (fun _ _ => rfl) (u := .int .i64 0) ?_, .d (.int _ _)⟩
          simp [Builtin.cap_, h0, run_underlying htu, rv_nil hx, goInt]
        · cases ho
      · cases ho
  · cases ho

theorem s_min {dst type pos after guard} (args : Array Operand) (argTypes : Array TypeId) : Sound P S ⟨dst, .call { callee := .builtin .min, args := args, argTypes := argTypes }, type, pos, after, guard⟩ := by
  refine ⟨?_⟩
  intro w0 A0 N L A T B a w v ups T1 B1 T2 K Q oc dr hoc hI ho hu hp hK
  simp only [eff] at ho
  refine outV hI ho hu hp hK ?_
  split at ho
  · rename_i x vs hargs
    split at ho
    · rename_i z hz
      cases ho
      obtain ⟨l⟩ := args
      match l, hargs with
      | y :: l, hargs =>
        simp only [List.map_cons, List.cons.injEq] at hargs
        have hy := ev_rv hI y
        rw [hargs.1] at hy
        have hy := rv_int hy
        rw [← hargs.2] at hz
        refine ⟨rfl, _, run_call_builtin (f := Builtin.min_) (fun _ _ => rfl) (u := .int .i64 z) (w' := w) ?_, .d (.int _ _)⟩
        simp only [Builtin.min_, List.map_toArray, List.map_cons, hy]
        exact foldI_spec minI Builtin.min2 (fun x y w => by simp [Builtin.min2, minI]) hI l x z hz
    · cases ho
  · cases ho
theorem s_max {dst type pos after guard} (args : Array Operand) (argTypes : Array TypeId) : Sound P S ⟨dst, .call { callee := .builtin .max, args := args, argTypes := argTypes }, type, pos, after, guard⟩ := by
  refine ⟨?_⟩
  intro w0 A0 N L A T B a w v ups T1 B1 T2 K Q oc dr hoc hI ho hu hp hK
  simp only [eff] at ho
  refine outV hI ho hu hp hK ?_
  split at ho
  · rename_i x vs hargs
    split at ho
    · rename_i z hz
      cases ho
      obtain ⟨l⟩ := args
      match l, hargs with
      | y :: l, hargs =>
        simp only [List.map_cons, List.cons.injEq] at hargs
        have hy := ev_rv hI y
        rw [hargs.1] at hy
        have hy := rv_int hy
        rw [← hargs.2] at hz
        refine ⟨rfl, _, run_call_builtin (f := Builtin.max_) (fun _ _ => rfl) (u := .int .i64 z) (w' := w) ?_, .d (.int _ _)⟩
        simp only [Builtin.max_, List.map_toArray, List.map_cons, hy]
        exact foldI_spec maxI Builtin.max2 (fun x y w => by simp [Builtin.max2, maxI]) hI l x z hz
    · cases ho
  · cases ho
end
end Go.Vm
