/- Each operation, ninth part: equality, literals, make. -/
import Derived.Test.YtgfaonnajdoeoaaVmL
namespace Go.Vm
open Go.RowKit (Below)
section
variable {P : Program} {S : Tys}
variable {w0 : World} {A0 : Sta} {N : Nat} {L : Lay} {A : Sta} {T : Nat → AV} {B : Nat → Option Bx} {a : Act} {w : World}

theorem eqvF_sound (hS : TysOk P S) {X Y : Array Value} (d : Nat) : ∀ (fs : List Field) (i : Nat) (as bs : List D) (r : Bool), eqvF S fs i as bs = some r → (∀ f ∈ fs, f.name ≠ "_") →
    (∀ (j : Nat) c, as[j]? = some c → ∃ u, X[i + j]? = some u ∧ Rep w A c u) → (∀ (j : Nat) c, bs[j]? = some c → ∃ u, Y[i + j]? = some u ∧ Rep w A c u) →
    (Op.eqFields (d + 1) X Y fs).run P w = .ok r w ∧ ∀ f ∈ fs, ∃ u, P.underlying f.type = some u ∧ ((∃ k, u = .int k) ∨ u = .bool ∨ u = .string)
  | [], i, [], [], r, h, _, _, _ => by simp only [eqvF] at h; cases h; exact ⟨rfl, by simp⟩
  | [], i, _ :: _, _, r, h, _, _, _ => by simp [eqvF] at h
  | [], i, [], _ :: _, r, h, _, _, _ => by simp [eqvF] at h
  | f :: fs, i, [], _, r, h, _, _, _ => by simp [eqvF] at h
  | f :: fs, i, _ :: _, [], r, h, _, _, _ => by simp [eqvF] at h
  | ⟨nm, ft, off, e1, e2, e3, e4⟩ :: fs, i, x :: as, y :: bs, r, h, hn, hx, hy => by
    simp only [eqvF] at h
    split at h
    · rename_i und sz by' z ho ht
      have ho := Nat.eq_of_beq_eq_true ho
      subst ho
      have ht := hS _ _ ht
      split at h
      · rename_i r' hr
        obtain ⟨g1, g2⟩ := eqvF_sound hS d fs (off + 1) as bs r' hr (fun f hf => hn f (List.mem_cons_of_mem _ hf))
          (fun j c hc => by have := hx (j + 1) c (by simpa using hc); rwa [show off + (j + 1) = off + 1 + j by omega] at this)
          (fun j c hc => by have := hy (j + 1) c (by simpa using hc); rwa [show off + (j + 1) = off + 1 + j by omega] at this)
        obtain ⟨u, hu, hru⟩ := hx 0 x rfl
        obtain ⟨v, hv, hrv⟩ := hy 0 y rfl
        rw [Nat.add_zero] at hu hv
        have hnm : nm ≠ "_" := hn _ List.mem_cons_self
        have key : ∀ q : Bool, isAggT und = false → (Op.equalIn (d + 1) ft u v).run P w = .ok q w → ((∃ k, und = .int k) ∨ und = .bool ∨ und = .string) → r = (q && r') →
            (Op.eqFields (d + 1) X Y (⟨nm, ft, off, e1, e2, e3, e4⟩ :: fs)).run P w = .ok r w ∧ ∀ f ∈ ((⟨nm, ft, off, e1, e2, e3, e4⟩ : Field) :: fs), ∃ u, P.underlying f.type = some u ∧ ((∃ k, u = .int k) ∨ u = .bool ∨ u = .string) := by
          intro q hag he hk hrq
          refine ⟨?_, fun f hf => ?_⟩
          · have p1 := run_part_one (w := w) ht hag hu
            have p2 := run_part_one (w := w) ht hag hv
            simp only [Op.eqFields, ne_eq, hnm, not_false_eq_true, if_true, Sem.run_bind, p1, p2, he, Result.andThen_ok]
            cases q
            · simp [hrq]
            · simp [hrq, g1]
          · cases hf with
            | head => exact ⟨und, ht.und, hk⟩
            | tail _ hf => exact g2 f hf
        split at h
        · rename_i k0 k a k' b
          split at h
          · rename_i hk
            simp only [decide_eq_true_eq] at hk
            subst hk
            cases h
            cases hru; cases hrv
            exact key _ rfl (run_equalIn_int w d ft _ _ _ _ ht.und) (.inl ⟨_, rfl⟩) rfl
          · cases h
        · rename_i a b
          cases h
          cases hru; cases hrv
          exact key _ rfl (run_equalIn_bool' w d ft _ _ ht.und) (.inr (.inl rfl)) rfl
        · rename_i a b
          cases h
          cases hru; cases hrv
          exact key _ rfl (run_equalIn_string w d ft _ _ ht.und) (.inr (.inr rfl)) rfl
        · cases h
      · cases h
    · cases h

theorem eqGuardType_struct {t : TypeId} {fs : Array Field} (ht : P.underlying t = some (.struct fs)) (h : ∀ f ∈ fs.toList, ∃ u, P.underlying f.type = some u ∧ ((∃ k, u = .int k) ∨ u = .bool ∨ u = .string)) :
    P.eqGuardType P.depth t = false := by
  have : ∃ n, P.depth = n + 2 := ⟨2 * (P.types.size + Made.depth), rfl⟩
  obtain ⟨n, hn⟩ := this
  rw [hn, Program.eqGuardType, ht]
  simp only [← Array.any_toList, List.any_eq_false]
  intro f hf
  obtain ⟨u, hu, hk⟩ := h f hf
  have : P.eqGuardType (n + 1) f.type = false := by
    rw [Program.eqGuardType, hu]
    rcases hk with ⟨k, rfl⟩ | rfl | rfl <;> rfl
  simp [this]

theorem effEq_sound (hS : TysOk P S) {t : TypeId} {neg : Bool} {x y : AV} {vx vy : Value} {v : AV} {ups} {px py : Operand} (ho : Out P (effEq S t neg x y) v ups) (hx : RV L w A x vx) (hy : RV L w A y vy) :
    ups = [] ∧ ∃ u, (do eqGuard (if neg then .neq else .eql) t px py vx vy; binOp (if neg then .neq else .eql) t vx vy : Sem Value).run P w = .ok u w ∧ RV L w A v u := by
  unfold effEq at ho
  split at ho
  · rename_i p q
    have hx := rv_bool hx
    have hy := rv_bool hy
    subst hx; subst hy
    have hb : isBoolT S t = true → P.underlying t = some .bool := by
      unfold isBoolT
      split
      · rename_i ti ht
        split
        · rename_i hu; intro _; rw [(hS _ _ ht).und, hu]
        · intro h; cases h
      · intro h; cases h
    split at ho
    · rename_i h
      cases ho
      refine ⟨rfl, .bool (p == q), ?_, .d (.bool _)⟩
      simp only [Sem.run_bind, Bool.false_eq_true, if_false, run_eqGuard_bool, Result.andThen_ok, binOp, Op.equal, Op.maxDepth, run_equalIn_bool' w 9999 t p q (hb h), Sem.run_pure]
    · rename_i h
      cases ho
      refine ⟨rfl, .bool (!(p == q)), ?_, .d (.bool _)⟩
      simp only [Sem.run_bind, if_true, run_eqGuard_bool, Result.andThen_ok, binOp, Op.equal, Op.maxDepth, run_equalIn_bool' w 9999 t p q (hb h), Sem.run_pure]
    · cases ho
  · rename_i p q
    obtain ⟨X, rfl, hl, h1, hr⟩ := rv_agg hx
    obtain ⟨Y, rfl, hl', h1', hr'⟩ := rv_agg hy
    have key : ∀ r, eqvA S t p q = some r → (Op.equalIn 10000 t (.agg X) (.agg Y)).run P w = .ok r w ∧ P.eqGuardType P.depth t = false := by
      intro r he
      unfold eqvA at he
      split at he
      · rename_i ti ht
        have ht := hS _ _ ht
        split at he
        · rename_i fs hu
          have hun : P.underlying t = some (.struct fs) := by rw [ht.und, hu]
          obtain ⟨hh1, hh2⟩ := ht.held fs hu
          obtain ⟨g1, g2⟩ := eqvF_sound hS (w := w) (A := A) (X := X) (Y := Y) 9998 fs.toList 0 p q r he (fun f hf => (hh2 f hf).1)
            (fun j c hc => by
              obtain ⟨u, hu⟩ := arr_get (C := X) (j := j) (by rw [← hl]; exact lt_of_get hc)
              exact ⟨u, by rw [Nat.zero_add]; exact hu, hr j c u hc hu⟩)
            (fun j c hc => by
              obtain ⟨u, hu⟩ := arr_get (C := Y) (j := j) (by rw [← hl']; exact lt_of_get hc)
              exact ⟨u, by rw [Nat.zero_add]; exact hu, hr' j c u hc hu⟩)
          have hf : P.fieldsOf t = fs := by simp [Program.fieldsOf, hun]
          refine ⟨?_, eqGuardType_struct hun g2⟩
          rw [run_equalIn_struct w 9999 t X Y (by rw [hf]; exact hun) hh1, hf]
          exact g1
        · cases he
      · cases he
    have hg : ∀ op : BinOp, P.eqGuardType P.depth t = false → (eqGuard op t px py (.agg X) (.agg Y)).run P w = .ok () w := by
      intro op he
      unfold eqGuard
      cases op <;> first | rfl | simp [he]
    split at ho
    · rename_i r he
      cases ho
      obtain ⟨k1, k2⟩ := key _ he
      refine ⟨rfl, .bool r, ?_, .d (.bool _)⟩
      simp only [Sem.run_bind, Bool.false_eq_true, if_false, hg _ k2, Result.andThen_ok, binOp, Op.equal, Op.maxDepth, k1, Sem.run_pure]
    · rename_i r he
      cases ho
      obtain ⟨k1, k2⟩ := key _ he
      refine ⟨rfl, .bool (!r), ?_, .d (.bool _)⟩
      simp only [Sem.run_bind, if_true, hg _ k2, Result.andThen_ok, binOp, Op.equal, Op.maxDepth, k1, Sem.run_pure]
    · cases ho
  · cases ho

theorem s_binOp (hS : TysOk P S) {dst type pos after guard} (op : BinOp) (t t' : TypeId) (x y : Operand) : Sound P S ⟨dst, .binOp op t x y t', type, pos, after, guard⟩ := by
  refine ⟨?_⟩
  intro w0 A0 N L A T B a w v ups T1 B1 T2 K Q hI ho hu hp hK
  have hx := ev_rv hI x
  have hy := ev_rv hI y
  simp only [eff] at ho
  refine outV hI ho hu hp hK ?_
  have eqs : ∀ (neg : Bool), Out P (effEq S t neg (evA T x) (evA T y)) v ups → op = (if neg then .neq else .eql) → ups = [] ∧ ∃ u, (execOp a.eval ⟨dst, .binOp op t x y t', type, pos, after, guard⟩).run P w = .ok (.value u) w ∧ RV L w A v u := by
    intro neg h e
    obtain ⟨h1, u, h2, h3⟩ := effEq_sound hS (px := x) (py := y) h hx hy
    refine ⟨h1, u, ?_, h3⟩
    rw [e]
    simp only [execOp, Sem.run_bind] at h2 ⊢
    rw [h2]; rfl
  have bin : ∀ op', Out P (effBin op' (evA T x) (evA T y)) v ups → op = op' → ups = [] ∧ ∃ u, (execOp a.eval ⟨dst, .binOp op t x y t', type, pos, after, guard⟩).run P w = .ok (.value u) w ∧ RV L w A v u := by
    rintro op' ho rfl
    obtain ⟨h1, u, h2, h3⟩ := effBin_sound (t := t) ho hx hy
    refine ⟨h1, u, ?_, h3⟩
    have hg : (eqGuard op t x y (a.eval x) (a.eval y)).run P w = .ok () w := by
      have hs : (∃ k n k' m, a.eval x = .int k n ∧ a.eval y = .int k' m) ∨ ∃ p q, a.eval x = .string p ∧ a.eval y = .string q := by
        unfold effBin at ho
        split at ho
        · rename_i h4 h5; rw [h4] at hx; rw [h5] at hy; exact .inl ⟨_, _, _, _, rv_int hx, rv_int hy⟩
        · rename_i h4 h5; rw [h4] at hx; rw [h5] at hy; exact .inr ⟨_, _, rv_str hx, rv_str hy⟩
        · cases ho
      rcases hs with ⟨k, n, k', m, e1, e2⟩ | ⟨p, q, e1, e2⟩
      · rw [e1, e2]; exact run_eqGuard_int
      · rw [e1, e2]; exact run_eqGuard_str
    simp only [execOp, Sem.run_bind, hg, h2, Result.andThen_ok]
    rfl
  have eq2 : ∀ neg, Out P (effEq2 S t neg (evA T x) (evA T y)) v ups → op = (if neg then .neq else .eql) → ups = [] ∧ ∃ u, (execOp a.eval ⟨dst, .binOp op t x y t', type, pos, after, guard⟩).run P w = .ok (.value u) w ∧ RV L w A v u := by
    intro neg h e
    unfold effEq2 at h
    split at h
    · exact eqs neg h e
    · exact eqs neg h e
    · cases neg
      · exact bin _ h e
      · exact bin _ h e
  cases op <;> first
    | exact eq2 false ho rfl
    | exact eq2 true ho rfl
    | exact bin _ ho rfl
end
end Go.Vm
