/- Each operation, ninth part: equality, literals, make. -/
import Derived.Test.YticnipadahihhaaVmL
import Derived.ChangeKeysEq
namespace Go.Vm
open Go.RowKit (Below)
section
variable {P : Program} {S : Tys} {oc : Option Orc}
variable {w0 : Ent} {A0 : Sta} {N : Nat} {L : Lay} {A : Sta} {T : Nat → AV} {B : Nat → Option Bx} {a : Act} {w : World}

theorem eqvF_sound (hS : TysOk P S) {X Y : Array Value} (d : Nat) : ∀ (fs : List Field) (i : Nat) (as bs : List D) (r : Bool), eqvF S fs i as bs = some r → (∀ f ∈ fs, f.name ≠ "_") →
    (∀ (j : Nat) c, as[j]? = some c → ∃ u, X[i + j]? = some u ∧ Rep w A c u) → (∀ (j : Nat) c, bs[j]? = some c → ∃ u, Y[i + j]? = some u ∧ Rep w A c u) →
    (Op.eqFields (d + 1) X Y fs).run P w = .ok r w ∧ ∀ f ∈ fs, ∃ u, P.underlying f.type = some u ∧ ((∃ k, u = .int k) ∨ u = .bool ∨ u = .string)
  | [], i, [], [], r, h, _, _, _ => by simp only [eqvF] at h; cases h; exact ⟨rfl, by simp⟩
  | [], i, _ :: _, _, r, h, _, _, _ => by simp [eqvF] at h
  | [], i, [], _ :: _, r, h, _, _, _ => by simp [eqvF] at h
  | f :: fs, i, [], _, r, h, _, _, _ => by simp [eqvF] at h
  | f :: fs, i, _ :: _, [], r, h, _, _, _ => by simp [eqvF] at h
  | ⟨nm, ft, off, e1, e2, e3, e4⟩ :: fs, i, x :: as, y :: bs, r, h, hn, hx, hy => by
    simp only [eqvF] at h
    split at h
    · rename_i und sz by' z ho ht
      have ho := Nat.eq_of_beq_eq_true ho
      subst ho
      have ht := hS _ _ ht
      split at h
      · rename_i r' hr
        obtain ⟨g1, g2⟩ := eqvF_sound hS d fs (off + 1) as bs r' hr (fun f hf => hn f (List.mem_cons_of_mem _ hf))
          (fun j c hc => by have := hx (j + 1) c (by simpa using hc); rwa [show off + (j + 1) = off + 1 + j by omega] at this)
          (fun j c hc => by have := hy (j + 1) c (by simpa using hc); rwa [show off + (j + 1) = off + 1 + j by omega] at this)
        obtain ⟨u, hu, hru⟩ := hx 0 x rfl
        obtain ⟨v, hv, hrv⟩ := hy 0 y rfl
        rw [Nat.add_zero] at hu hv
        have hnm : nm ≠ "_" := hn _ List.mem_cons_self
        have key : ∀ q : Bool, isAggT und = false → (Op.equalIn (d + 1) ft u v).run P w = .ok q w → ((∃ k, und = .int k) ∨ und = .bool ∨ und = .string) → r = (q && r') →
            (Op.eqFields (d + 1) X Y (⟨nm, ft, off, e1, e2, e3, e4⟩ :: fs)).run P w = .ok r w ∧ ∀ f ∈ ((⟨nm, ft, off, e1, e2, e3, e4⟩ : Field) :: fs), ∃ u, P.underlying f.type = some u ∧ ((∃ k, u = .int k) ∨ u = .bool ∨ u = .string) := by
          intro q hag he hk hrq
          refine ⟨?_, fun f hf => ?_⟩
          · have p1 := run_part_one (w := w) ht hag hu
            have p2 := run_part_one (w := w) ht hag hv
            simp only [Op.eqFields, ne_eq, hnm, not_false_eq_true, if_true, Sem.run_bind, p1, p2, he, Result.andThen_ok]
            cases q
            · simp [hrq]
            · simp [hrq, g1]
          · cases hf with
            | head => exact ⟨und, ht.und, hk⟩
            | tail _ hf => exact g2 f hf
        split at h
        · rename_i k0 k a k' b
          split at h
          · rename_i hk
            simp only [decide_eq_true_eq] at hk
            subst hk
            cases h
            cases hru; cases hrv
            exact key _ rfl (run_equalIn_int w d ft _ _ _ _ ht.und) (.inl ⟨_, rfl⟩) rfl
          · cases h
        · rename_i a b
          cases h
          cases hru; cases hrv
          exact key _ rfl (run_equalIn_bool' w d ft _ _ ht.und) (.inr (.inl rfl)) rfl
        · rename_i a b
          cases h
          cases hru; cases hrv
          exact key _ rfl (run_equalIn_string w d ft _ _ ht.und) (.inr (.inr rfl)) rfl
        · cases h
      · cases h
    · cases h

theorem guard_flat {t : TypeId} {u : TypeDesc} (n : Nat) (ht : P.underlying t = some u) (h : (∃ k, u = .int k) ∨ u = .bool ∨ u = .string) : P.eqGuardType (n + 1) t = false := by
  rw [Program.eqGuardType, ht]
  rcases h with ⟨k, rfl⟩ | rfl | rfl <;> rfl
theorem guard_struct {t : TypeId} {fs : Array Field} (n : Nat) (ht : P.underlying t = some (.struct fs)) (h : ∀ f ∈ fs.toList, P.eqGuardType n f.type = false) : P.eqGuardType (n + 1) t = false := by
  rw [Program.eqGuardType, ht]
  simp only [← Array.any_toList, List.any_eq_false]
  intro f hf
  simp [h f hf]
theorem eqGuardType_struct {t : TypeId} {fs : Array Field} (ht : P.underlying t = some (.struct fs)) (h : ∀ f ∈ fs.toList, ∀ n, P.eqGuardType (n + 2) f.type = false) :
    P.eqGuardType P.depth t = false := by
  have : ∃ n, P.depth = n + 3 := ⟨2 * (P.types.size + Made.depth) - 1, rfl⟩
  obtain ⟨n, hn⟩ := this
  rw [hn]
  exact guard_struct (n + 2) ht fun f hf => h f hf n
theorem eqvG_sound (hS : TysOk P S) {X Y : Array Value} (d : Nat) : ∀ (fs : List Field) (i : Nat) (as bs : List D) (r : Bool), eqvG S fs i as bs = some r → (∀ f ∈ fs, f.name ≠ "_") →
    (∀ (j : Nat) c, as[j]? = some c → ∃ u, X[i + j]? = some u ∧ Rep w A c u) → (∀ (j : Nat) c, bs[j]? = some c → ∃ u, Y[i + j]? = some u ∧ Rep w A c u) →
    (Op.eqFields (d + 2) X Y fs).run P w = .ok r w ∧ ∀ f ∈ fs, ∀ n, P.eqGuardType (n + 2) f.type = false
  | [], i, as, bs, r, h, _, _, _ => by
    simp only [eqvG] at h
    split at h
    · cases h; exact ⟨rfl, by simp⟩
    · cases h
  | ⟨nm, ft, off, e1, e2, e3, e4⟩ :: fs, i, as, bs, r, h, hn, hx, hy => by
    simp only [eqvG] at h
    have hnm : nm ≠ "_" := hn _ List.mem_cons_self
    split at h
    · rename_i und sz by' z ho ht
      have ho := Nat.eq_of_beq_eq_true ho
      subst ho
      replace ht := hS _ _ ht
      split at h
      · rename_i gs
        split at h
        · rename_i q r' hq hr
          cases h
          obtain ⟨g1, g2⟩ := eqvG_sound hS d fs (off + sz) _ _ r' hr (fun f hf => hn f (List.mem_cons_of_mem _ hf))
            (fun j c hc => by rw [List.getElem?_drop] at hc; have := hx _ c hc; rwa [← Nat.add_assoc] at this)
            (fun j c hc => by rw [List.getElem?_drop] at hc; have := hy _ c hc; rwa [← Nat.add_assoc] at this)
          have hun : P.underlying ft = some (.struct gs) := ht.und
          obtain ⟨hh1, hh2⟩ := ht.held gs rfl
          have ex : ∀ (Z : Array Value) (cs : List D), (∀ (j : Nat) c, cs[j]? = some c → ∃ u, Z[off + j]? = some u ∧ Rep w A c u) → ∀ (j : Nat) c, (cs.take sz)[j]? = some c → ∃ u, (Z.extract off (off + sz))[0 + j]? = some u ∧ Rep w A c u := by
            intro Z cs hZ j c hc
            have hj : j < sz := by
              have := (List.getElem?_eq_some_iff.1 hc).1
              rw [List.length_take] at this; omega
            rw [List.getElem?_take_of_lt hj] at hc
            obtain ⟨u, hu, hr⟩ := hZ j c hc
            refine ⟨u, ?_, hr⟩
            have hlt := (Array.getElem?_eq_some_iff.1 hu).1
            rw [Array.getElem?_extract, if_pos (by omega), Nat.zero_add]; exact hu
          obtain ⟨k1, k2⟩ := eqvF_sound hS (w := w) (A := A) (X := X.extract off (off + sz)) (Y := Y.extract off (off + sz)) d gs.toList 0 _ _ q hq (fun f hf => (hh2 f hf).1) (ex X as hx) (ex Y bs hy)
          have p1 := run_part_agg (w := w) ht rfl (cs := X) (off := off)
          have p2 := run_part_agg (w := w) ht rfl (cs := Y) (off := off)
          have hf : P.fieldsOf ft = gs := by simp [Program.fieldsOf, hun]
          have p3 : (Op.equalIn (d + 2) ft (.agg (X.extract off (off + sz))) (.agg (Y.extract off (off + sz)))).run P w = .ok q w := by
            rw [run_equalIn_struct w (d + 1) ft _ _ (by rw [hf]; exact hun) hh1, hf]
            exact k1
          refine ⟨?_, fun f hf => ?_⟩
          · simp only at p1 p2
            simp only [Op.eqFields, ne_eq, hnm, not_false_eq_true, if_true, Sem.run_bind, p1, p2, p3, Result.andThen_ok]
            cases q
            · simp
            · simp [g1]
          · cases hf with
            | head => exact fun n => guard_struct (n + 1) hun fun g hg => (k2 g hg).elim fun u hh => guard_flat n hh.1 hh.2
            | tail _ hf => exact g2 f hf
        · cases h
      · rename_i hns
        split at h
        · rename_i x as y bs
          split at h
          · rename_i r' hr
            obtain ⟨g1, g2⟩ := eqvG_sound hS d fs (off + 1) as bs r' hr (fun f hf => hn f (List.mem_cons_of_mem _ hf))
              (fun j c hc => by have := hx (j + 1) c (by simpa using hc); rwa [show off + (j + 1) = off + 1 + j by omega] at this)
              (fun j c hc => by have := hy (j + 1) c (by simpa using hc); rwa [show off + (j + 1) = off + 1 + j by omega] at this)
            obtain ⟨u, hu, hru⟩ := hx 0 x rfl
            obtain ⟨v, hv, hrv⟩ := hy 0 y rfl
            rw [Nat.add_zero] at hu hv
            have key : ∀ q : Bool, isAggT und = false → (Op.equalIn (d + 2) ft u v).run P w = .ok q w → ((∃ k, und = .int k) ∨ und = .bool ∨ und = .string) → r = (q && r') →
                (Op.eqFields (d + 2) X Y (⟨nm, ft, off, e1, e2, e3, e4⟩ :: fs)).run P w = .ok r w ∧ ∀ f ∈ ((⟨nm, ft, off, e1, e2, e3, e4⟩ : Field) :: fs), ∀ n, P.eqGuardType (n + 2) f.type = false := by
              intro q hag he hk hrq
              refine ⟨?_, fun f hf => ?_⟩
              · have p1 := run_part_one (w := w) ht hag hu
                have p2 := run_part_one (w := w) ht hag hv
                simp only [Op.eqFields, ne_eq, hnm, not_false_eq_true, if_true, Sem.run_bind, p1, p2, he, Result.andThen_ok]
                cases q
                · simp [hrq]
                · simp [hrq, g1]
              · cases hf with
                | head => exact fun n => guard_flat (n + 1) ht.und hk
                | tail _ hf => exact g2 f hf
            split at h
            · rename_i k0 k a k' b
              split at h
              · rename_i hk
                simp only [decide_eq_true_eq] at hk
                subst hk
                cases h
                cases hru; cases hrv
                exact key _ rfl (run_equalIn_int w (d + 1) ft _ _ _ _ ht.und) (.inl ⟨_, rfl⟩) rfl
              · cases h
            · rename_i a b
              cases h
              cases hru; cases hrv
              exact key _ rfl (run_equalIn_bool' w (d + 1) ft _ _ ht.und) (.inr (.inl rfl)) rfl
            · rename_i a b
              cases h
              cases hru; cases hrv
              exact key _ rfl (run_equalIn_string w (d + 1) ft _ _ ht.und) (.inr (.inr rfl)) rfl
            · cases h
          · cases h
        · cases h
    · cases h

theorem eqvI_sound {e : TypeId} {te : TI} (ht : TyOk P e te) (h1 : P.cellsOf e = 1) {k0 : IntKind} (hu : te.und = .int k0) {X Y : Array Value} (d : Nat) : ∀ (as bs : List D) (i : Nat) (r : Bool), eqvI as bs = some r →
    (∀ (j : Nat) c, as[j]? = some c → ∃ u, X[i + j]? = some u ∧ Rep w A c u) → (∀ (j : Nat) c, bs[j]? = some c → ∃ u, Y[i + j]? = some u ∧ Rep w A c u) →
    (Op.eqItems (d + 1) e (P.cellsOf e) X Y (List.range' i as.length)).run P w = .ok r w
  | [], [], i, r, h, _, _ => by simp only [eqvI] at h; cases h; simp [Op.eqItems]
  | [], _ :: _, i, r, h, _, _ => by simp [eqvI] at h
  | _ :: _, [], i, r, h, _, _ => by simp [eqvI] at h
  | x :: as, y :: bs, i, r, h, hx, hy => by
    simp only [eqvI] at h
    split at h
    · rename_i r' hr
      have ih := eqvI_sound ht h1 hu d as bs (i + 1) r' hr
        (fun j c hc => by have := hx (j + 1) c (by simpa using hc); rwa [show i + (j + 1) = i + 1 + j by omega] at this)
        (fun j c hc => by have := hy (j + 1) c (by simpa using hc); rwa [show i + (j + 1) = i + 1 + j by omega] at this)
      obtain ⟨u, hxu, hru⟩ := hx 0 x rfl
      obtain ⟨v, hyv, hrv⟩ := hy 0 y rfl
      rw [Nat.add_zero] at hxu hyv
      have hag : isAggT te.und = false := by rw [hu]; rfl
      have p1 := run_part_one (w := w) ht hag hxu
      have p2 := run_part_one (w := w) ht hag hyv
      split at h
      · rename_i k a k' b
        split at h
        · rename_i hk
          simp only [decide_eq_true_eq] at hk
          subst hk
          cases h
          cases hru; cases hrv
          have p3 := run_equalIn_int (P := P) w d e k k0 a b (by rw [ht.und, hu])
          simp only [List.length_cons, List.range'_succ, Op.eqItems, Sem.run_bind, h1, Nat.mul_one, p1, p2, p3, Result.andThen_ok]
          rw [h1] at ih
          cases hq : a == b
          · simp
          · simp [ih]
        · cases h
      · cases h
    · cases h
theorem eqGuardType_array {t e : TypeId} {n : Nat} {k : IntKind} (ht : P.underlying t = some (.array n e)) (he : P.underlying e = some (.int k)) : P.eqGuardType P.depth t = false := by
  have : ∃ n, P.depth = n + 2 := ⟨2 * (P.types.size + Made.depth), rfl⟩
  obtain ⟨n, hn⟩ := this
  rw [hn, Program.eqGuardType, ht]
  simp only
  rw [Program.eqGuardType, he]

theorem effEq_sound (hS : TysOk P S) {t : TypeId} {neg : Bool} {x y : AV} {vx vy : Value} {v : AV} {ups} {px py : Operand} (ho : Out P oc (effEq S t neg x y) v ups) (hx : RV L w A x vx) (hy : RV L w A y vy) :
    ups = [] ∧ ∃ u, (do eqGuard (if neg then .neq else .eql) t px py vx vy; binOp (if neg then .neq else .eql) t vx vy : Sem Value).run P w = .ok u w ∧ RV L w A v u := by
  unfold effEq at ho
  split at ho
  · rename_i p q
    have hx := rv_bool hx
    have hy := rv_bool hy
    subst hx; subst hy
    have hb : isBoolT S t = true → P.underlying t = some .bool := by
      unfold isBoolT
      split
      · rename_i ti ht
        split
        · rename_i hu; intro _; rw [(hS _ _ ht).und, hu]
        · intro h; cases h
      · intro h; cases h
    split at ho
    · rename_i h
      cases ho
      refine ⟨rfl, .bool (p == q), ?_, .d (.bool _)⟩
      simp only [Sem.run_bind, Bool.false_eq_true, if_false, run_eqGuard_bool, Result.andThen_ok, binOp, Op.equal, Op.maxDepth, run_equalIn_bool' w 9999 t p q (hb h), Sem.run_pure]
    · rename_i h
      cases ho
      refine ⟨rfl, .bool (!(p == q)), ?_, .d (.bool _)⟩
      simp only [Sem.run_bind, if_true, run_eqGuard_bool, Result.andThen_ok, binOp, Op.equal, Op.maxDepth, run_equalIn_bool' w 9999 t p q (hb h), Sem.run_pure]
    · cases ho
  · rename_i p q
    obtain ⟨X, rfl, hl, h1, hr⟩ := rv_agg hx
    obtain ⟨Y, rfl, hl', h1', hr'⟩ := rv_agg hy
    have key : ∀ r, eqvA S t p q = some r → (Op.equalIn 10000 t (.agg X) (.agg Y)).run P w = .ok r w ∧ P.eqGuardType P.depth t = false := by
      intro r he
      unfold eqvA at he
      split at he
      · rename_i ti ht
        have ht := hS _ _ ht
        split at he
        · rename_i fs hu
          have hun : P.underlying t = some (.struct fs) := by rw [ht.und, hu]
          obtain ⟨hh1, hh2⟩ := ht.held fs hu
          obtain ⟨g1, g2⟩ := eqvG_sound hS (w := w) (A := A) (X := X) (Y := Y) 9997 fs.toList 0 p q r he (fun f hf => (hh2 f hf).1)
            (fun j c hc => by
              obtain ⟨u, hu⟩ := arr_get (C := X) (j := j) (by rw [← hl]; exact lt_of_get hc)
              exact ⟨u, by rw [Nat.zero_add]; exact hu, hr j c u hc hu⟩)
            (fun j c hc => by
              obtain ⟨u, hu⟩ := arr_get (C := Y) (j := j) (by rw [← hl']; exact lt_of_get hc)
              exact ⟨u, by rw [Nat.zero_add]; exact hu, hr' j c u hc hu⟩)
          have hf : P.fieldsOf t = fs := by simp [Program.fieldsOf, hun]
          refine ⟨?_, eqGuardType_struct hun g2⟩
          rw [run_equalIn_struct w 9999 t X Y (by rw [hf]; exact hun) hh1, hf]
          exact g1
        · rename_i n e hu
          have hun : P.underlying t = some (.array n e) := by rw [ht.und, hu]
          split at he
          · rename_i te hte
            have hte := hS _ _ hte
            split at he
            · rename_i k0 hue hsz hln
              have hsz := Nat.eq_of_beq_eq_true hsz
              have hln := Nat.eq_of_beq_eq_true hln
              obtain ⟨i, z, hi, hi1, _⟩ := hte.info
              have hce : P.cellsOf e = 1 := by rw [Program.cellsOf, hi]; simp [hi1, hsz]
              have g1 := eqvI_sound hte hce hue (w := w) (A := A) (X := X) (Y := Y) 9998 p q 0 r he
                (fun j c hc => by
                  obtain ⟨u, hu⟩ := arr_get (C := X) (j := j) (by rw [← hl]; exact lt_of_get hc)
                  exact ⟨u, by rw [Nat.zero_add]; exact hu, hr j c u hc hu⟩)
                (fun j c hc => by
                  obtain ⟨u, hu⟩ := arr_get (C := Y) (j := j) (by rw [← hl']; exact lt_of_get hc)
                  exact ⟨u, by rw [Nat.zero_add]; exact hu, hr' j c u hc hu⟩)
              refine ⟨?_, eqGuardType_array hun (by rw [hte.und, hue])⟩
              rw [run_equalIn_array w 9999 X Y hun hi, List.range_eq_range', ← hln]
              exact g1
            · cases he
          · cases he
        · cases he
      · cases he
    have hg : ∀ op : BinOp, P.eqGuardType P.depth t = false → (eqGuard op t px py (.agg X) (.agg Y)).run P w = .ok () w := by
      intro op he
      unfold eqGuard
      cases op <;> first | rfl | simp [he]
    split at ho
    · rename_i r he
      cases ho
      obtain ⟨k1, k2⟩ := key _ he
      refine ⟨rfl, .bool r, ?_, .d (.bool _)⟩
      simp only [Sem.run_bind, Bool.false_eq_true, if_false, hg _ k2, Result.andThen_ok, binOp, Op.equal, Op.maxDepth, k1, Sem.run_pure]
    · rename_i r he
      cases ho
      obtain ⟨k1, k2⟩ := key _ he
      refine ⟨rfl, .bool (!r), ?_, .d (.bool _)⟩
      simp only [Sem.run_bind, if_true, hg _ k2, Result.andThen_ok, binOp, Op.equal, Op.maxDepth, k1, Sem.run_pure]
    · cases ho
  · cases ho

theorem run_equalIn_nil (w : World) (d : Nat) (t e : TypeId) (p : Option Addr) (n c : Nat) (h : P.underlying t = some (.slice e)) :
    (Op.equalIn (d + 1) t (.slice p n c) (.slice none 0 0)).run P w = .ok p.isNone w := by
  cases p <;> simp [Op.equalIn, run_underlying h]
theorem rep_slice {sz : Nat} {es : List D} {u : Value} (h : RV L w A (.d (.sl sz es)) u) : ∃ p n c, u = .slice p n c ∧ (es ≠ [] → p.isNone = false) := by
  cases h with
  | d h =>
    cases h with
    | slnil => exact ⟨_, _, _, rfl, fun h => absurd rfl h⟩
    | sl => exact ⟨_, _, _, rfl, fun _ => rfl⟩
theorem s_binOp (hS : TysOk P S) {dst type pos after guard} (op : BinOp) (t t' : TypeId) (x y : Operand) : Sound P S ⟨dst, .binOp op t x y t', type, pos, after, guard⟩ := by
  refine ⟨?_⟩
  intro w0 A0 N L A T B a w v ups T1 B1 T2 K Q oc dr hoc hI ho hu hp hK
  have hx := ev_rv hI x
  have hy := ev_rv hI y
  simp only [eff] at ho
  refine outV hI ho hu hp hK ?_
  have eqs : ∀ (neg : Bool), Out P oc (effEq S t neg (evA T x) (evA T y)) v ups → op = (if neg then .neq else .eql) → ups = [] ∧ ∃ u, (execOp a.eval ⟨dst, .binOp op t x y t', type, pos, after, guard⟩).run P w = .ok (.value u) w ∧ RV L w A v u := by
    intro neg h e
    obtain ⟨h1, u, h2, h3⟩ := effEq_sound hS (px := x) (py := y) h hx hy
    refine ⟨h1, u, ?_, h3⟩
    rw [e]
    simp only [execOp, Sem.run_bind] at h2 ⊢
    rw [h2]; rfl
  have bin : ∀ op', Out P oc (effBin op' (evA T x) (evA T y)) v ups → op = op' → ups = [] ∧ ∃ u, (execOp a.eval ⟨dst, .binOp op t x y t', type, pos, after, guard⟩).run P w = .ok (.value u) w ∧ RV L w A v u := by
    rintro op' ho rfl
    obtain ⟨h1, u, h2, h3⟩ := effBin_sound (t := t) ho hx hy
    refine ⟨h1, u, ?_, h3⟩
    have hg : (eqGuard op t x y (a.eval x) (a.eval y)).run P w = .ok () w := by
      have hs : (∃ k n k' m, a.eval x = .int k n ∧ a.eval y = .int k' m) ∨ ∃ p q, a.eval x = .string p ∧ a.eval y = .string q := by
        unfold effBin at ho
        split at ho
        · rename_i h4 h5; rw [h4] at hx; rw [h5] at hy; exact .inl ⟨_, _, _, _, rv_int hx, rv_int hy⟩
        · rename_i h4 h5; rw [h4] at hx; rw [h5] at hy; exact .inr ⟨_, _, rv_str hx, rv_str hy⟩
        · cases ho
      rcases hs with ⟨k, n, k', m, e1, e2⟩ | ⟨p, q, e1, e2⟩
      · rw [e1, e2]; exact run_eqGuard_int
      · rw [e1, e2]; exact run_eqGuard_str
    simp only [execOp, Sem.run_bind, hg, h2, Result.andThen_ok]
    rfl
  have eq2 : ∀ neg, Out P oc (effEq2 S t neg (evA T x) (evA T y)) v ups → op = (if neg then .neq else .eql) → ups = [] ∧ ∃ u, (execOp a.eval ⟨dst, .binOp op t x y t', type, pos, after, guard⟩).run P w = .ok (.value u) w ∧ RV L w A v u := by
    intro neg h e
    unfold effEq2 at h
    split at h
    · exact eqs neg h e
    · exact eqs neg h e
    · cases neg
      · exact bin _ h e
      · exact bin _ h e
  have eq3 : ∀ neg, Out P oc (effEq3 S t neg (evA T x) (evA T y)) v ups → op = (if neg then .neq else .eql) → ups = [] ∧ ∃ u, (execOp a.eval ⟨dst, .binOp op t x y t', type, pos, after, guard⟩).run P w = .ok (.value u) w ∧ RV L w A v u := by
    intro neg h e
    unfold effEq3 at h
    split at h
    · rename_i sz hny
      rw [hny] at hy
      have hyv := rv_nil hy
      unfold effNil at h
      split at h
      · rename_i ti hti
        split at h
        · rename_i el hu1
          have htu : P.underlying t = some (.slice el) := by rw [(hS _ _ hti).und, hu1]
          have run : ∀ p n c, a.eval x = .slice p n c → (execOp a.eval ⟨dst, .binOp op t x y t', type, pos, after, guard⟩).run P w = .ok (.value (.bool (if neg then !p.isNone else p.isNone))) w := by
            intro p n c hv
            subst e
            cases neg <;> simp [execOp, hv, hyv, eqGuard, binOp, Op.equal, Op.maxDepth, Go.Vm.run_equalIn_nil w 9999 t el p n c htu]
          have nl : ∀ p n c, a.eval x = .slice p n c → nilV a ⟨dst, .binOp op t x y t', type, pos, after, guard⟩ = p.isNone := by
            intro p n c hv
            simp only [nilV, hv]
          split at h
          · rename_i sz' es hxe
            rw [hxe] at hx
            obtain ⟨p, n, c, hv, hne⟩ := rep_slice hx
            cases h with
            | nilY hw hn he ho =>
              cases ho
              rw [hoc] at hw; cases hw
              rw [nl p n c hv] at hn
              replace hn : p.isNone = true := hn
              refine ⟨rfl, _, run p n c hv, ?_⟩
              rw [hn]
              cases neg <;> exact .d (.bool _)
            | nilN hw hn ho =>
              cases ho
              rw [hoc] at hw; cases hw
              rw [nl p n c hv] at hn
              have hn : p.isNone = false := by
                rcases hn with hn | hn
                · exact (show p.isNone = false from hn)
                · exact hne hn
              refine ⟨rfl, _, run p n c hv, ?_⟩
              rw [hn]
              cases neg <;> exact .d (.bool _)
          · rename_i sz' hxe
            rw [hxe] at hx
            cases h
            refine ⟨rfl, _, run _ _ _ (rv_nil hx), ?_⟩
            cases neg <;> exact .d (.bool _)
          · cases h
        · cases h
      · cases h
    · exact eq2 neg h e
  cases op <;> first
    | exact eq3 false ho rfl
    | exact eq3 true ho rfl
    | exact bin _ ho rfl
end
end Go.Vm
