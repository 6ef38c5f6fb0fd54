/- From a walked body to the function's contract. -/
import Derived.Test.YtgfaonnajdoeoaaVmT
namespace Go.Vm
open Go.RowKit (Below)

def numT : Nat → List D → List (Nat × AV)
  | _, [] => []
  | i, a :: r => (i, .d a) :: numT (i + 1) r
def resV (S : Tys) (σ : St) : List ResultVar → (List AV → Prop) → Prop
  | [], K => K []
  | .tmp t :: r, K => resV S σ r fun vs => K (σ.get t :: vs)
  | .cell a t :: r, K => match S t, σ.get a with
    | some ti, .ptr b off => match lk σ.bx b with
      | some (.var cs _) => match loadL ti cs off with
        | .ok v _ => resV S σ r fun vs => K (v :: vs)
        | _ => False
      | _ => False
    | _, _ => False
def retOf : List D → D
  | [d] => d
  | ds => .tup ds
def retP (S : Tys) (fn : Func) (ret : D) (σ : St) : Prop := match Nat.beq fn.results.size fn.resultTypes.size with
  | true => resV S σ fn.results.toList fun vs => match frzALK (lk σ.bx) (zipResz S vs fn.resultTypes.toList) (fun ds us => .ok (.d (retOf ds)) us) with
    | .ok (.d r) _ => r = ret
    | _ => False
  | false => False
def endP (S : Tys) (fn : Func) (ret : D) (e : Ex) (σ : St) : Prop := match e with
  | .normal => retP S fn ret σ
  | .ret => retP S fn ret σ
  | .exit _ => False

section
variable {P : Program} {S : Tys} {N : Nat} {w0 : World} {A0 : Sta}

def resG (tmps : Array Value) : ResultVar → Sem Value
  | .tmp t => pure (tmps.getD t undef)
  | .cell a t => do loadVar t (← asAddr (tmps.getD a undef))
theorem results_eq (fn : Func) (tmps : Array Value) : results fn tmps = (do
    let vs ← fn.results.toList.mapM (resG tmps)
    pure (if h : vs.toArray.size = 1 then vs.toArray[0] else .tuple vs.toArray)) := by
  have : results fn tmps = (do
    let vs ← fn.results.mapM (resG tmps)
    pure (if h : vs.size = 1 then vs[0] else .tuple vs)) := by
    unfold results
    congr 1
  rw [this, Array.mapM_eq_mapM_toList]
  simp only [bind_map_left]

theorem resV_out (hS : TysOk P S) {σ : St} {L : Lay} {A : Sta} {a : Act} {w : World} (hI : Inv w0 A0 N L A σ.get (lk σ.bx) a w) : ∀ {rs : List ResultVar} {K : List AV → Prop}, resV S σ rs K →
    ∃ (vs : List AV) (us : List Value), K vs ∧ vs.length = rs.length ∧ us.length = vs.length ∧ (rs.mapM (resG a.tmps)).run P w = .ok us w ∧
      ∀ (j : Nat) c u, vs[j]? = some c → us[j]? = some u → RV L w A c u
  | [], K, h => ⟨[], [], h, rfl, rfl, rfl, fun j c u h => by simp at h⟩
  | .tmp t :: r, K, h => by
    obtain ⟨vs, us, h1, h2, h3, h4, h5⟩ := resV_out hS hI (rs := r) h
    refine ⟨_, a.tmps.getD t undef :: us, h1, by simp [h2], by simp [h3], ?_, fun j c u hc hu => ?_⟩
    · simp only [List.mapM_cons, resG, pure_bind, Sem.run_bind, h4, Result.andThen_ok]
      rfl
    · cases j with
      | zero =>
        simp only [List.getElem?_cons_zero, Option.some.injEq] at hc hu
        subst hc; subst hu
        exact hI.tm t
      | succ j => exact h5 j c u (by simpa using hc) (by simpa using hu)
  | .cell x t :: r, K, h => by
    simp only [resV] at h
    split at h
    · rename_i ti b off ht hx
      split at h
      · rename_i cs fz hb
        split at h
        · rename_i v ups hv
          obtain ⟨vs, us, h1, h2, h3, h4, h5⟩ := resV_out hS hI (rs := r) h
          have hp := hI.tm x
          rw [hx] at hp
          have hp := rv_ptr hp
          obtain ⟨C, et, c1, c2, c3, _⟩ := hI.bxs b _ hb
          obtain ⟨-, u0, l1, l2⟩ := loadL_sound (hS _ _ ht) (w := w) (L := L) (A := A) (g := L.ι b) (by rw [hv]; exact Out.ok v ups) (fun j c hc => by
            obtain ⟨u, hu⟩ := arr_get (C := C) (j := j) (by rw [c2]; exact lt_of_get hc)
            exact ⟨u, by rw [cell_of_row w (L.ι b) j C et (0, 0) c1]; exact hu, c3 j c u hc hu⟩)
          refine ⟨_, u0 :: us, h1, by simp [h2], by simp [h3], ?_, fun j c u hc hu => ?_⟩
          · have : (asAddr (a.tmps.getD x undef)).run P w = .ok ⟨L.ι b, off, none⟩ w := by rw [hp]; rfl
            simp only [List.mapM_cons, resG, Sem.run_bind, this, Result.andThen_ok, l1, h4]
            rfl
          · cases j with
            | zero =>
              simp only [List.getElem?_cons_zero, Option.some.injEq] at hc hu
              subst hc; subst hu
              exact l2
            | succ j => exact h5 j c u (by simpa using hc) (by simpa using hu)
        · cases h
      · cases h
    · cases h

theorem frz_upsR {B : Nat → Option Bx} {T : Nat → AV} {us : List (Nat × Option Bx)} (hf : Frz B us) : ∀ {B0 : Nat → Option Bx}, (∀ b x, B b = some x → ∃ fz, B0 b = some (x.withFz fz)) →
    (∀ b x b', B b = some x → x.men b' = true → B0 b' ≠ none) → ∃ B1, UpsR none us T B0 T B1 := by
  induction hf with
  | nil => intro B0 _ _; exact ⟨B0, .nil _ _⟩
  | @row b et sz es fz r h hr ih =>
    intro B0 h1 h2
    obtain ⟨fz0, h3⟩ := h1 b _ h
    obtain ⟨B1, hB1⟩ := ih (B0 := upd B0 b (some (.row et sz es true))) (fun b' x hx => by
      by_cases e : b' = b
      · subst e; rw [h] at hx; cases hx; exact ⟨true, upd_same _ _ _⟩
      · obtain ⟨f', hf'⟩ := h1 b' x hx
        exact ⟨f', by rw [upd_ne _ _ e]; exact hf'⟩) (fun b1 x b' hx hm => by
      by_cases e : b' = b
      · subst e; rw [upd_same]; simp
      · rw [upd_ne _ _ e]; exact h2 b1 x b' hx hm)
    exact ⟨B1, .set (by rw [h3]; simp) (by simp) (fun b' hm => by cases hm) hB1⟩
  | @var b cs fz r h hr ih =>
    intro B0 h1 h2
    obtain ⟨fz0, h3⟩ := h1 b _ h
    obtain ⟨B1, hB1⟩ := ih (B0 := upd B0 b (some (.var cs true))) (fun b' x hx => by
      by_cases e : b' = b
      · subst e; rw [h] at hx; cases hx; exact ⟨true, upd_same _ _ _⟩
      · obtain ⟨f', hf'⟩ := h1 b' x hx
        exact ⟨f', by rw [upd_ne _ _ e]; exact hf'⟩) (fun b1 x b' hx hm => by
      by_cases e : b' = b
      · subst e; rw [upd_same]; simp
      · rw [upd_ne _ _ e]; exact h2 b1 x b' hx hm)
    exact ⟨B1, .set (by rw [h3]; simp) (by simp) (fun b' hm => h2 b _ b' h hm) hB1⟩

theorem ret_sound (hS : TysOk P S) {fn : Func} {ret : D} {σ : St} {a : Act} {w : World} (hr : Rel w0 A0 N σ a w) (h : retP S fn ret σ) :
    a.defers = [] ∧ ∃ v, (results fn a.tmps).run P w = .ok v w ∧ ∃ A', Rep w A' ret v ∧ Below w0.heap.size w0 w ∧ (∀ g o, A0 g o → A' g o) ∧ (∀ g o, A' g o → g < w.heap.size) ∧ (∀ g o, A' g o → A0 g o ∨ w0.heap.size ≤ g) := by
  obtain ⟨L, A, hI⟩ := hr
  refine ⟨hI.df, ?_⟩
  unfold retP at h
  split at h
  · rename_i hsz
    have hsz := Nat.eq_of_beq_eq_true hsz
    obtain ⟨vs, us, h1, h2, h3, h4, h5⟩ := resV_out hS hI h
    split at h1
    · rename_i r ups hfz
      subst h1
      have hz := zipResz_len (S := S) vs fn.resultTypes.toList (by rw [h2]; simpa using hsz)
      obtain ⟨ds, fs, ho, g1, g2, g3⟩ := frzALK_out (P := P) hI (us := us) (v := .d r) (ups := ups) (by rw [hz, h3]) (fun j c u hc hu => by
        obtain ⟨t, x, hx, rfl⟩ := zipResz_get _ _ j c hc
        exact resz_rv (h5 j x u hx hu)) (by rw [hfz]; exact .ok _ _)
      have e : r = retOf ds := by cases ho; rfl
      subst e
      obtain ⟨B1, hB1⟩ := frz_upsR (T := σ.get) g1 idRows hI.clB
      obtain ⟨A', B2, k1, k2, k3, k4, -, -⟩ := frz_ups (rest := []) g1 idRows hI (by simpa using hB1)
      have hv : (results fn a.tmps).run P w = .ok (if h : us.toArray.size = 1 then us.toArray[0] else .tuple us.toArray) w := by
        rw [results_eq]
        simp only [Sem.run_bind, h4, Result.andThen_ok]
        rfl
      refine ⟨_, hv, A', ?_, k2.below, k2.Aold, k2.Aok, k2.Afr⟩
      have reps := g3 A' k1 k4
      match ds, us, g2, reps with
      | [d], [u], _, reps => exact reps 0 d u rfl rfl
      | [], [], _, reps => exact .tup rfl fun j c v hc => by simp at hc
      | d :: d' :: ds, u :: u' :: us, g2, reps =>
        have : ¬ (u :: u' :: us).toArray.size = 1 := by simp
        rw [dif_neg this]
        exact .tup (by simpa using g2) fun j c v hc hv => reps j c v hc (by simpa using hv)
    · cases h1
  · cases h

theorem numT_get : ∀ (args : List D) (i t : Nat), lk (numT i args) t = if i ≤ t then (args[t - i]?).map .d else none
  | [], i, t => by simp [numT, lk]
  | a :: r, i, t => by
    simp only [numT, lk_cons, numT_get r (i + 1) t]
    by_cases e : t = i
    · subst e; simp
    · rw [if_neg e]
      by_cases h : i ≤ t
      · rw [if_pos h, if_pos (by omega), show t - i = (t - (i + 1)) + 1 by omega, List.getElem?_cons_succ]
      · rw [if_neg h, if_neg (by omega)]

theorem ev_of_awp (hS : TysOk P S) (hm : P.follows .mixedOrders = true) {f : FuncId} {fn : Func} {c : Code} {args : List D} {ret : D} (hf : P.funcs[f]? = some fn) (hb : fn.body = some c)
    (hn : (fn.name == "runtime.NumGoroutine") = false) (hlen : Nat.ble args.length fn.ntmps = true) (h : awp P S fn.ntmps c (endP S fn ret) ⟨numT 0 args, []⟩) : Ev P f args ret := by
  refine ⟨⟨fn, hf, hn, by rw [hb]; rfl⟩, fun w A vals hA hsz hreps => ?_⟩
  have hlen := Nat.le_of_ble_eq_true hlen
  refine calls_of_wp hf hb ?_
  have hI : Inv w A fn.ntmps ⟨fun _ => 0, fun _ => undef⟩ A (St.get ⟨numT 0 args, []⟩) (lk []) { tmps := vals ++ Array.replicate (fn.ntmps - vals.size) undef, defers := [] } w := by
    refine ⟨Below.refl _ _, rfl, by simp; omega, hA, fun _ _ h => h, fun _ _ h => .inl h, fun t => ?_, fun b x hx => by simp [lk] at hx, fun b x hx => by simp [lk] at hx, fun b b' x x' hx => by simp [lk] at hx, fun t b hm => ?_, fun b x b' hx => by simp [lk] at hx⟩
    · simp only [St.get, numT_get, Nat.zero_le, if_true, Nat.sub_zero]
      cases ht : args[t]? with
      | none => exact .junk _
      | some d =>
        have hlt : t < vals.size := by rw [← hsz]; exact lt_of_get ht
        refine .d (hreps t d _ ht ?_)
        simp only [Array.getD_eq_getD_getElem?, Array.getElem?_append, if_pos hlt]
        rw [Array.getElem?_eq_getElem hlt]
        rfl
    · simp only [St.get, numT_get, Nat.zero_le, if_true, Nat.sub_zero] at hm
      cases ht : args[t]? with
      | none => rw [ht] at hm; cases hm
      | some d => rw [ht] at hm; cases hm
  refine awp_sound hS hm c h ⟨_, _, hI⟩ fun e σ' a' w' hr hk => ?_
  have fin : retP S fn ret σ' → a'.defers = [] ∧ ∃ v, (results fn a'.tmps).run P w' = .ok v w' ∧ ∃ v_1 A', Ending.returned v = .returned v_1 ∧ Rep w' A' ret v_1 ∧ Below w.heap.size w w' ∧
      (∀ g o, A g o → A' g o) ∧ (∀ g o, A' g o → g < w'.heap.size) ∧ (∀ g o, A' g o → A g o ∨ w.heap.size ≤ g) := by
    intro hret
    obtain ⟨h1, v, h2, A', h3⟩ := ret_sound hS hr hret
    exact ⟨h1, v, h2, v, A', rfl, h3⟩
  cases e with
  | normal => exact fin hk
  | ret => exact fin hk
  | exit i => cases hk
end
end Go.Vm
