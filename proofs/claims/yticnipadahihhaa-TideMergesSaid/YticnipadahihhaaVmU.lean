/- From a walked body to the function's contract. -/
import Derived.Test.YticnipadahihhaaVmT
namespace Go.Vm
open Go.RowKit (Below)

def numT : Nat → List D → List (Nat × AV)
  | _, [] => []
  | i, a :: r => (i, .d a) :: numT (i + 1) r
def resV (S : Tys) (σ : St) : List ResultVar → (List AV → Prop) → Prop
  | [], K => K []
  | .tmp t :: r, K => resV S σ r fun vs => K (σ.get t :: vs)
  | .cell a t :: r, K => match S t, σ.get a with
    | some ti, .ptr b off => match lk σ.bx b with
      | some (.var cs _) => match loadL ti cs off with
        | .ok v _ => resV S σ r fun vs => K (v :: vs)
        | _ => False
      | _ => False
    | _, _ => False
def retOf : List D → D
  | [d] => d
  | ds => .tup ds
def retP (S : Tys) (fn : Func) (ret : D) (σ : St) : Prop := match Nat.beq fn.results.size fn.resultTypes.size with
  | true => resV S σ fn.results.toList fun vs => match frzALK (lk σ.bx) (zipResz S vs fn.resultTypes.toList) (fun ds us => .ok (.d (retOf ds)) us) with
    | .ok (.d r) _ => r = ret
    | _ => False
  | false => False
def endP (S : Tys) (fn : Func) (ret : D) (e : Ex) (σ : St) : Prop := match e with
  | .normal => retP S fn ret σ
  | .ret => retP S fn ret σ
  | .exit _ => False

section
variable {P : Program} {S : Tys} {N : Nat} {w0 : Ent} {A0 : Sta}

def resG (tmps : Array Value) : ResultVar → Sem Value
  | .tmp t => pure (tmps.getD t undef)
  | .cell a t => do loadVar t (← asAddr (tmps.getD a undef))
theorem results_eq (fn : Func) (tmps : Array Value) : results fn tmps = (do
    let vs ← fn.results.toList.mapM (resG tmps)
    pure (if h : vs.toArray.size = 1 then vs.toArray[0] else .tuple vs.toArray)) := by
  have : results fn tmps = (do
    let vs ← fn.results.mapM (resG tmps)
    pure (if h : vs.size = 1 then vs[0] else .tuple vs)) := by
    unfold results
    congr 1
  rw [this, Array.mapM_eq_mapM_toList]
  simp only [bind_map_left]

theorem resV_out (hS : TysOk P S) {σ : St} {L : Lay} {A : Sta} {a : Act} {w : World} (hI : Inv w0 A0 N L A σ.get (lk σ.bx) a w) : ∀ {rs : List ResultVar} {K : List AV → Prop}, resV S σ rs K →
    ∃ (vs : List AV) (us : List Value), K vs ∧ vs.length = rs.length ∧ us.length = vs.length ∧ (rs.mapM (resG a.tmps)).run P w = .ok us w ∧
      ∀ (j : Nat) c u, vs[j]? = some c → us[j]? = some u → RV L w A c u
  | [], K, h => ⟨[], [], h, rfl, rfl, rfl, fun j c u h => by simp at h⟩
  | .tmp t :: r, K, h => by
    obtain ⟨vs, us, h1, h2, h3, h4, h5⟩ := resV_out hS hI (rs := r) h
    refine ⟨_, a.tmps.getD t undef :: us, h1, by simp [h2], by simp [h3], ?_, fun j c u hc hu => ?_⟩
    · simp only [List.mapM_cons, resG, pure_bind, Sem.run_bind, h4, Result.andThen_ok]
      rfl
    · cases j with
      | zero =>
        simp only [List.getElem?_cons_zero, Option.some.injEq] at hc hu
        subst hc; subst hu
        exact hI.tm t
      | succ j => exact h5 j c u (by simpa using hc) (by simpa using hu)
  | .cell x t :: r, K, h => by
    simp only [resV] at h
    split at h
    · rename_i ti b off ht hx
      split at h
      · rename_i cs fz hb
        split at h
        · rename_i v ups hv
          obtain ⟨vs, us, h1, h2, h3, h4, h5⟩ := resV_out hS hI (rs := r) h
          have hp := hI.tm x
          rw [hx] at hp
          have hp := rv_ptr hp
          obtain ⟨C, et, c1, c2, c3, _⟩ := hI.bxs b _ hb
          obtain ⟨-, u0, l1, l2⟩ := loadL_sound (oc := none) (hS _ _ ht) (w := w) (L := L) (A := A) (g := L.ι b) (by rw [hv]; exact Out.ok v ups) (fun j c hc => by
            obtain ⟨u, hu⟩ := arr_get (C := C) (j := j) (by rw [c2]; exact lt_of_get hc)
            exact ⟨u, by rw [cell_of_row w (L.ι b) j C et (0, 0) c1]; exact hu, c3 j c u hc hu⟩)
          refine ⟨_, u0 :: us, h1, by simp [h2], by simp [h3], ?_, fun j c u hc hu => ?_⟩
          · have : (asAddr (a.tmps.getD x undef)).run P w = .ok ⟨L.ι b, off, none⟩ w := by rw [hp]; rfl
            simp only [List.mapM_cons, resG, Sem.run_bind, this, Result.andThen_ok, l1, h4]
            rfl
          · cases j with
            | zero =>
              simp only [List.getElem?_cons_zero, Option.some.injEq] at hc hu
              subst hc; subst hu
              exact l2
            | succ j => exact h5 j c u (by simpa using hc) (by simpa using hu)
        · cases h
      · cases h
    · cases h

theorem frz_upsR {B : Nat → Option Bx} {T : Nat → AV} {us : List (Nat × Option Bx)} (hf : Frz B us) : ∀ {B0 : Nat → Option Bx}, (∀ b x, B b = some x → ∃ y, B0 b = some y ∧ x.fzd y) →
    (∀ b x b', B b = some x → x.men b' = true → B0 b' ≠ none) → ∃ B1, UpsR none us T B0 T B1 := by
  have go : ∀ {b : Nat} {x x' : Bx} {r : List (Nat × Option Bx)}, B b = some x → (∀ y, x.fzd y → x.fzd x') → (∀ b', x'.men b' = true → x.men b' = true) →
      (∀ {B0 : Nat → Option Bx}, (∀ b x, B b = some x → ∃ y, B0 b = some y ∧ x.fzd y) → (∀ b x b', B b = some x → x.men b' = true → B0 b' ≠ none) → ∃ B1, UpsR none r T B0 T B1) →
      ∀ {B0 : Nat → Option Bx}, (∀ b x, B b = some x → ∃ y, B0 b = some y ∧ x.fzd y) → (∀ b x b', B b = some x → x.men b' = true → B0 b' ≠ none) → ∃ B1, UpsR none ((b, some x') :: r) T B0 T B1 := by
    intro b x x' r hx hxx hmm ih B0 h1 h2
    obtain ⟨y, hy, hf⟩ := h1 b x hx
    obtain ⟨B1, hB1⟩ := ih (B0 := upd B0 b (some x')) (fun b' z hz => by
      by_cases e : b' = b
      · subst e; rw [hx] at hz; cases hz; exact ⟨x', upd_same _ _ _, hxx y hf⟩
      · rw [upd_ne _ _ e]; exact h1 b' z hz) (fun b1 z b' hz hm => by
      by_cases e : b' = b
      · subst e; rw [upd_same]; simp
      · rw [upd_ne _ _ e]; exact h2 b1 z b' hz hm)
    exact ⟨B1, .set rfl (by rw [hy]; simp) (fun b' hm => h2 b x b' hx (hmm b' hm)) hB1⟩
  induction hf with
  | nil => intro B0 _ _; exact ⟨B0, .nil _ _⟩
  | row h hr ih => intro B0 h1 h2; exact go h (fun _ _ => ⟨true, rfl⟩) (fun _ h => h) ih h1 h2
  | var h hr ih => intro B0 h1 h2; exact go h (fun _ _ => ⟨true, rfl⟩) (fun _ h => h) ih h1 h2
  | arr h hr ih => intro B0 h1 h2; exact go h (fun _ _ => ⟨true, rfl⟩) (fun _ h => h) ih h1 h2
  | mat h hr ih => intro B0 h1 h2; exact go h (fun _ _ => .inr ⟨_, true, rfl, rfl⟩) (fun _ h => by cases h) ih h1 h2

theorem ret_sound (hS : TysOk P S) {fn : Func} {ret : D} {σ : St} {a : Act} {w : World} (hr : Rel w0 A0 N σ a w) (h : retP S fn ret σ) :
    a.defers = [] ∧ ∃ v, (results fn a.tmps).run P w = .ok v w ∧ ∃ A', Rep w A' ret v ∧ BelowE w0 w ∧ (∀ g o, A0 g o → A' g o) ∧ (∀ g o, A' g o → g < w.heap.size) ∧ (∀ g o, A' g o → A0 g o ∨ w0.own g) := by
  obtain ⟨L, A, hI⟩ := hr
  refine ⟨hI.df, ?_⟩
  unfold retP at h
  split at h
  · rename_i hsz
    have hsz := Nat.eq_of_beq_eq_true hsz
    obtain ⟨vs, us, h1, h2, h3, h4, h5⟩ := resV_out hS hI h
    split at h1
    · rename_i r ups hfz
      subst h1
      have hz := zipResz_len (S := S) vs fn.resultTypes.toList (by rw [h2]; simpa using hsz)
      obtain ⟨ds, fs, ho, g1, g2, g3⟩ := frzALK_out (oc := none) (P := P) hI (us := us) (v := .d r) (ups := ups) (by rw [hz, h3]) (fun j c u hc hu => by
        obtain ⟨t, x, hx, rfl⟩ := zipResz_get _ _ j c hc
        exact resz_rv (h5 j x u hx hu)) (by rw [hfz]; exact .ok _ _)
      have e : r = retOf ds := by cases ho; rfl
      subst e
      obtain ⟨B1, hB1⟩ := frz_upsR (T := σ.get) g1 idRows hI.clB
      obtain ⟨A', B2, k1, k2, k3, k4, -, -⟩ := frz_ups (rest := []) g1 idRows hI (by simpa using hB1)
      have hv : (results fn a.tmps).run P w = .ok (if h : us.toArray.size = 1 then us.toArray[0] else .tuple us.toArray) w := by
        rw [results_eq]
        simp only [Sem.run_bind, h4, Result.andThen_ok]
        rfl
      refine ⟨_, hv, A', ?_, k2.below, k2.Aold, k2.Aok, k2.Afr⟩
      have reps := g3 A' k1 k4
      match ds, us, g2, reps with
      | [d], [u], _, reps => exact reps 0 d u rfl rfl
      | [], [], _, reps => exact .tup rfl fun j c v hc => by simp at hc
      | d :: d' :: ds, u :: u' :: us, g2, reps =>
        have : ¬ (u :: u' :: us).toArray.size = 1 := by simp
        rw [dif_neg this]
        exact .tup (by simpa using g2) fun j c v hc hv => reps j c v hc (by simpa using hv)
    · cases h1
  · cases h

theorem numT_get : ∀ (args : List D) (i t : Nat), lk (numT i args) t = if i ≤ t then (args[t - i]?).map .d else none
  | [], i, t => by simp [numT, lk]
  | a :: r, i, t => by
    simp only [numT, lk_cons, numT_get r (i + 1) t]
    by_cases e : t = i
    · subst e; simp
    · rw [if_neg e]
      by_cases h : i ≤ t
      · rw [if_pos h, if_pos (by omega), show t - i = (t - (i + 1)) + 1 by omega, List.getElem?_cons_succ]
      · rw [if_neg h, if_neg (by omega)]

/-- A call that was handed no boxes. -/
def Ent.plain (w : World) (L : Lay) : Ent := ⟨w, fun _ => False, w.heap.size, L, Nat.le_refl _, fun _ h => h.elim⟩
def lay0 : Lay := ⟨fun _ => 0, fun _ => undef, fun _ _ _ => undef, fun _ => 0⟩
theorem ev_of_awp (hS : TysOk P S) (hm : P.follows .mixedOrders = true) {f : FuncId} {fn : Func} {c : Code} {args : List D} {ret : D} (hf : P.funcs[f]? = some fn) (hb : fn.body = some c)
    (hn : (fn.name == "runtime.NumGoroutine") = false) (hlen : Nat.ble args.length fn.ntmps = true) (h : awp P S fn.ntmps c (endP S fn ret) ⟨numT 0 args, []⟩) : Ev P f args ret := by
  refine ⟨⟨fn, hf, hn, by rw [hb]; rfl⟩, fun w A vals hA hsz hreps => ?_⟩
  have hlen := Nat.le_of_ble_eq_true hlen
  refine calls_of_wp hf hb ?_
  have hI : Inv (Ent.plain w lay0) A fn.ntmps lay0 A (St.get ⟨numT 0 args, []⟩) (lk []) { tmps := vals ++ Array.replicate (fn.ntmps - vals.size) undef, defers := [] } w := by
    refine ⟨⟨rfl, .rfl', rfl, Nat.le_refl _, fun _ _ _ => rfl⟩, fun _ _ _ => .rfl', rfl, by simp; omega, hA, fun _ _ h => h, fun _ _ _ => rfl, fun _ _ h => .inl h, fun t => ?_, fun b x hx => by simp [lk] at hx, fun b x g hx => by simp [lk] at hx, fun b b' x x' g hx => by simp [lk] at hx, fun t b hm => ?_, fun b x b' hx => by simp [lk] at hx⟩
    · simp only [St.get, numT_get, Nat.zero_le, if_true, Nat.sub_zero]
      cases ht : args[t]? with
      | none => exact .junk _
      | some d =>
        have hlt : t < vals.size := by rw [← hsz]; exact lt_of_get ht
        refine .d (hreps t d _ ht ?_)
        simp only [Array.getD_eq_getD_getElem?, Array.getElem?_append, if_pos hlt]
        rw [Array.getElem?_eq_getElem hlt]
        rfl
    · simp only [St.get, numT_get, Nat.zero_le, if_true, Nat.sub_zero] at hm
      cases ht : args[t]? with
      | none => rw [ht] at hm; cases hm
      | some d => rw [ht] at hm; cases hm
  refine awp_sound hS hm c h ⟨_, _, hI⟩ fun e σ' a' w' hr hk => ?_
  have fin : retP S fn ret σ' → a'.defers = [] ∧ ∃ v, (results fn a'.tmps).run P w' = .ok v w' ∧ ∃ v_1 A', Ending.returned v = .returned v_1 ∧ Rep w' A' ret v_1 ∧ BelowD w w' ∧
      (∀ g o, A g o → A' g o) ∧ (∀ g o, A' g o → g < w'.heap.size) ∧ (∀ g o, A' g o → A g o ∨ w.heap.size ≤ g) := by
    intro hret
    obtain ⟨h1, v, h2, A', h3, h4, h5, h6, h7⟩ := ret_sound hS hr hret
    refine ⟨h1, v, h2, v, A', rfl, h3, ⟨⟨h4.os, h4.tape.1, h4.output, h4.size, fun k hk => h4.block k hk id⟩, h4.tape.2⟩, h5, h6, fun g o hg => ?_⟩
    rcases h7 g o hg with h | h | h
    · exact .inl h
    · exact .inr h
    · exact h.elim
  cases e with
  | normal => exact fin hk
  | ret => exact fin hk
  | exit i => cases hk

/-! The same for calls that are handed boxes. -/
def numX : Nat → List AV → List (Nat × AV)
  | _, [] => []
  | i, a :: r => (i, a) :: numX (i + 1) r
def tupOf : List AV → AV
  | [v] => v
  | vs => .tup vs
/-- The end of a call: what comes back, and the boxes that remain. -/
structure RetX (V : AV) (σ : St) (v : AV) (us : List (Nat × Bx)) : Prop where
  out : ∃ rn, Le ⟨[(0, V)], σ.bx⟩ ⟨[(0, v)], us⟩ rn
  ok : V.okIn σ.bx = true
def retX (S : Tys) (fn : Func) (v : AV) (us : List (Nat × Bx)) (σ : St) : Prop := match Nat.beq fn.results.size fn.resultTypes.size with
  | true => resV S σ fn.results.toList fun vs => RetX (tupOf (zipResz S vs fn.resultTypes.toList)) σ v us
  | false => False
def endX (S : Tys) (fn : Func) (v : AV) (us : List (Nat × Bx)) (e : Ex) (σ : St) : Prop := match e with
  | .normal => retX S fn v us σ
  | .ret => retX S fn v us σ
  | .exit _ => False
theorem numX_get : ∀ (args : List AV) (i t : Nat), lk (numX i args) t = if i ≤ t then args[t - i]? else none
  | [], i, t => by simp [numX, lk]
  | a :: r, i, t => by
    simp only [numX, lk_cons, numX_get r (i + 1) t]
    by_cases e : t = i
    · subst e; simp
    · rw [if_neg e]
      by_cases h : i ≤ t
      · rw [if_pos h, if_pos (by omega), show t - i = (t - (i + 1)) + 1 by omega, List.getElem?_cons_succ]
      · rw [if_neg h, if_neg (by omega)]
def pinAll : List (Nat × Bx) → Bool
  | [] => true
  | (b, _) :: r => match pinned b with
    | true => pinAll r
    | false => false
theorem pinAll_get : ∀ {l : List (Nat × Bx)}, pinAll l = true → ∀ b, lk l b ≠ none → pinned b = true
  | [], _, b, h => absurd rfl h
  | (k, x) :: r, hl, b, h => by
    simp only [pinAll] at hl
    split at hl
    · rename_i hk
      rw [lk_cons] at h
      split at h
      · rename_i e; rw [e]; exact hk
      · exact pinAll_get hl b h
    · cases hl

theorem evx_of_awp (hS : TysOk P S) (hm : P.follows .mixedOrders = true) {f : FuncId} {fn : Func} {c : Code} {xs : List AV} {hs us : List (Nat × Bx)} {v : AV} (hf : P.funcs[f]? = some fn) (hb : fn.body = some c)
    (hn : (fn.name == "runtime.NumGoroutine") = false) (hlen : (Nat.ble xs.length fn.ntmps && pinAll hs) = true) (h : awp P S fn.ntmps c (endX S fn v us) ⟨numX 0 xs, hs⟩) : EvX P f xs hs v us := by
  refine ⟨⟨fn, hf, hn, by rw [hb]; rfl⟩, fun B0 w A L vals hB0 hA hsz hreps hmen hH => ?_⟩
  rw [Bool.and_eq_true] at hlen
  obtain ⟨hlen, hpin⟩ := hlen
  have hlen := Nat.le_of_ble_eq_true hlen
  refine calls_of_wp hf hb ?_
  let e0 : Ent := ⟨w, claims L hs, B0, L, hB0, fun k hk => by obtain ⟨b, x, h1, h2⟩ := hk; exact (hH.lo b x k h1 h2).1⟩
  have hI : Inv e0 A fn.ntmps L A (St.get ⟨numX 0 xs, hs⟩) (lk hs) { tmps := vals ++ Array.replicate (fn.ntmps - vals.size) undef, defers := [] } w := by
    refine ⟨⟨rfl, .rfl', rfl, Nat.le_refl _, fun _ _ _ => rfl⟩, fun _ _ _ => .rfl', rfl, by simp; omega, hA, fun _ _ h => h, fun _ _ _ => rfl, fun _ _ h => .inl h, fun t => ?_, hH.br, fun b x g hx hg => ⟨.inr ⟨b, x, hx, hg⟩, (hH.lo b x g hx hg).2⟩, hH.inj, fun t b hm => ?_, hH.cl⟩
    · simp only [St.get, numX_get, Nat.zero_le, if_true, Nat.sub_zero]
      cases ht : xs[t]? with
      | none => exact .junk _
      | some d =>
        have hlt : t < vals.size := by rw [← hsz]; exact lt_of_get ht
        refine hreps t d _ ht ?_
        simp only [Array.getD_eq_getD_getElem?, Array.getElem?_append, if_pos hlt]
        rw [Array.getElem?_eq_getElem hlt]
        rfl
    · simp only [St.get, numX_get, Nat.zero_le, if_true, Nat.sub_zero] at hm
      cases ht : xs[t]? with
      | none => rw [ht] at hm; cases hm
      | some d => rw [ht] at hm; exact hmen t d b ht hm
  refine awp_sound hS hm c h ⟨_, _, hI⟩ fun e σ' a' w' hr hk => ?_
  have fin : retX S fn v us σ' → a'.defers = [] ∧ ∃ u, (results fn a'.tmps).run P w' = .ok u w' ∧ ∃ u1 A' L', Ending.returned u = .returned u1 ∧ RV L' w' A' v u1 ∧ w'.os = w.os ∧ TapeOn w w' ∧ w'.output = w.output ∧ w.heap.size ≤ w'.heap.size ∧
      (∀ k, k < w.heap.size → ¬ claims L hs k → w'.heap[k]? = w.heap[k]?) ∧ (∀ g o, A g o → A' g o) ∧ (∀ g o, A g o → w'.cell? ⟨g, o, none⟩ = w.cell? ⟨g, o, none⟩) ∧ (∀ g o, A' g o → g < w'.heap.size) ∧
      (∀ g o, A' g o → A g o ∨ w.heap.size ≤ g ∨ claims L hs g) ∧ HOk B0 L' w' A' us ∧ (∀ g, claims L' us g → w.heap.size ≤ g ∨ claims L hs g) ∧ (∀ b, lk hs b ≠ none → lk us b ≠ none → L'.eqAt L b) ∧
      (∀ b, v.men b = true → lk us b ≠ none) := by
    intro hret
    obtain ⟨L1, A1, hI1⟩ := hr
    refine ⟨hI1.df, ?_⟩
    unfold retX at hret
    split at hret
    · rename_i hsz
      have hsz := Nat.eq_of_beq_eq_true hsz
      obtain ⟨vs, uv, h1, h2, h3, h4, h5⟩ := resV_out hS hI1 hret
      obtain ⟨⟨rn, hle⟩, hok⟩ := h1
      have hz := zipResz_len (S := S) vs fn.resultTypes.toList (by rw [h2]; simpa using hsz)
      have hv : (results fn a'.tmps).run P w' = .ok (if h : uv.toArray.size = 1 then uv.toArray[0] else .tuple uv.toArray) w' := by
        rw [results_eq]
        simp only [Sem.run_bind, h4, Result.andThen_ok]
        rfl
      have hrv : RV L1 w' A1 (tupOf (zipResz S vs fn.resultTypes.toList)) (if h : uv.toArray.size = 1 then uv.toArray[0] else .tuple uv.toArray) := by
        have reps : ∀ (j : Nat) c u, (zipResz S vs fn.resultTypes.toList)[j]? = some c → uv[j]? = some u → RV L1 w' A1 c u := by
          intro j c u hc hu
          obtain ⟨t, x, hx, rfl⟩ := zipResz_get _ _ j c hc
          exact resz_rv (h5 j x u hx hu)
        generalize hzs : zipResz S vs fn.resultTypes.toList = zs at reps hz
        have hl : zs.length = uv.length := by omega
        match zs, uv, hl, reps with
        | [d], [u], _, reps => exact reps 0 d u rfl rfl
        | [], [], _, reps => exact .tup rfl fun j c v hc => by simp at hc
        | d :: d' :: ds, u :: u' :: us, hl, reps =>
          have : ¬ (u :: u' :: us).toArray.size = 1 := by simp
          rw [dif_neg this]
          exact .tup (by simpa using hl) fun j c v hc hv => reps j c v hc (by simpa using hv)
      generalize (if h : uv.toArray.size = 1 then uv.toArray[0] else Value.tuple uv.toArray) = u at hv hrv
      have hI2 : Inv e0 A 1 L1 A1 (St.get ⟨[(0, tupOf (zipResz S vs fn.resultTypes.toList))], σ'.bx⟩) (lk σ'.bx) { a' with tmps := #[u] } w' := by
        refine { hI1 with size := rfl, df := hI1.df, tm := fun t => ?_, clT := fun t b hm => ?_ }
        · simp only [St.get, lk_cons]
          by_cases e : t = 0
          · subst e; exact hrv
          · rw [if_neg e]; exact .junk _
        · simp only [St.get, lk_cons] at hm
          by_cases e : t = 0
          · rw [if_pos e] at hm; exact okIn_men hok hm
          · rw [if_neg e] at hm; cases hm
      obtain ⟨L2, A2, hI3⟩ := le_sound hle ⟨L1, A1, hI2⟩
      have hv2 := hI3.tm 0
      refine ⟨u, hv, u, A2, L2, rfl, hv2, hI3.below.os, hI3.below.tape, hI3.below.output, hI3.below.size, fun k hk hc => hI3.below.block k hk hc, hI3.Aold, hI3.Acl, hI3.Aok, fun g o hg => ?_, ⟨hI3.bxs, fun b x g hx hg => ?_, hI3.inj, hI3.clB⟩, fun g hg => ?_, fun b hb hb' => hI3.pin b (pinAll_get hpin b hb) hb', fun b hb => hI3.clT 0 b hb⟩
      · exact hI3.Afr g o hg
      · have := hI3.lo b x g hx hg
        exact ⟨Ent.own_le this.1, this.2⟩
      · obtain ⟨b, x, hx, ho⟩ := hg
        exact (hI3.lo b x g hx ho).1
    · cases hret
  cases e with
  | normal => exact fin hk
  | ret => exact fin hk
  | exit i => cases hk
end
end Go.Vm
