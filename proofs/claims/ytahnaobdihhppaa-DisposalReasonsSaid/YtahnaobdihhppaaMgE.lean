/- Texts VmL VmM VmN, joined. -/
import Derived.Test.YtahnaobdihhppaaMgD
import Derived.ChangeKeysEq
import Derived.Great.BuildSlice
section
/- Each operation, eighth part: make, closures, calls, equality. -/
namespace Go.Vm
open Go.RowKit (Below)
section
variable {P : Program} {S : Tys} {oc : Option Orc}
variable {w0 : Ent} {A0 : Sta} {N : Nat} {L : Lay} {A : Sta} {T : Nat → AV} {B : Nat → Option Bx} {a : Act} {w : World}
/-- A box and what freezing may have made of it. -/
def Bx.fzd : Bx → Bx → Prop
  | .var cs _, y => ∃ fz, y = .var cs fz
  | .row et sz es _, y => ∃ fz, y = .row et sz es fz
  | .arr es _, y => ∃ fz, y = .arr es fz
  | .map kt et kd es, y => y = .map kt et kd es
  | .iter m n seen, y => y = .iter m n seen
  | .gone, y => y = .gone
  | .mat et ie v rows, y => y = .mat et ie v rows ∨ ∃ rs fz, rows = List.map some rs ∧ y = .row et 1 (rs.map (.sl 1)) fz
theorem Bx.fzd_refl (x : Bx) : x.fzd x := by
  cases x with
  | var cs fz => exact ⟨fz, rfl⟩
  | row et sz es fz => exact ⟨fz, rfl⟩
  | arr es fz => exact ⟨fz, rfl⟩
  | mat et ie v rows => exact .inl rfl
  | map kt et kd es => rfl
  | iter m n seen => rfl
  | gone => rfl
/-- A list of freezings. -/
inductive Frz (B : Nat → Option Bx) : List (Nat × Option Bx) → Prop
  | nil : Frz B []
  | row {b et sz es fz r} (h : B b = some (.row et sz es fz)) (hr : Frz B r) : Frz B ((b, some (.row et sz es true)) :: r)
  | var {b cs fz r} (h : B b = some (.var cs fz)) (hr : Frz B r) : Frz B ((b, some (.var cs true)) :: r)
  | arr {b es fz r} (h : B b = some (.arr es fz)) (hr : Frz B r) : Frz B ((b, some (.arr es true)) :: r)
  | mat {b et ie v rs r} (h : B b = some (.mat et ie v (List.map some rs))) (hr : Frz B r) : Frz B ((b, some (.row et 1 (rs.map (.sl 1)) true)) :: r)
theorem Frz.app {us vs : List (Nat × Option Bx)} (h : Frz B us) (h' : Frz B vs) : Frz B (us ++ vs) := by
  induction h with
  | nil => exact h'
  | row h hr ih => exact .row h ih
  | var h hr ih => exact .var h ih
  | arr h hr ih => exact .arr h ih
  | mat h hr ih => exact .mat h ih

/-- What a frozen reading needs: each row's elements as data, each variable's cells stable. -/
def FrzOk (L : Lay) (w : World) (us : List (Nat × Option Bx)) (A' : Sta) : Prop :=
  ∀ b x, (b, some x) ∈ us → match x with
    | .row _ sz es _ => Rep w A' (.sl sz es) (L.hd b)
    | .var cs _ => ∀ o, o < cs.length → A' (L.ι b) o
    | .arr es _ => ∀ o, o < es.length → A' (L.ι b) o
    | .mat _ _ _ _ => False
    | .map _ _ _ _ => False
    | .iter _ _ _ => False
    | .gone => False

theorem frz_ups {dst : Option Nat} {us rest : List (Nat × Option Bx)} (hf : Frz B us) : ∀ {B0 : Nat → Option Bx} {A : Sta} {T : Nat → AV} {T1 : Nat → AV} {B1 : Nat → Option Bx},
    (∀ b x, B b = some x → ∃ y, B0 b = some y ∧ x.fzd y) →
    Inv w0 A0 N L A T B0 a w → UpsR dst (us ++ rest) T B0 T1 B1 →
    ∃ A' B2, (∀ g o, A g o → A' g o) ∧ Inv w0 A0 N L A' T B2 a w ∧ UpsR dst rest T B2 T1 B1 ∧ FrzOk L w us A' ∧
      (∀ b x, B b = some x → ∃ y, B2 b = some y ∧ x.fzd y) ∧ (∀ b, B0 b = none → B2 b = none) := by
  have go : ∀ {b : Nat} {x x' : Bx} {r : List (Nat × Option Bx)}, B b = some x → (∀ y, x.fzd y → x.fzd x') →
      (∀ {B0 : Nat → Option Bx} {A : Sta} {T : Nat → AV} {y : Bx}, B0 b = some y → x.fzd y → Inv w0 A0 N L A T B0 a w → ∃ A', (∀ g o, A g o → A' g o) ∧ Inv w0 A0 N L A' T (upd B0 b (some x')) a w ∧ ∀ A'', (∀ g o, A' g o → A'' g o) → FrzOk L w [(b, some x')] A'') →
      (∀ {B0 : Nat → Option Bx} {A : Sta} {T : Nat → AV} {T1 : Nat → AV} {B1 : Nat → Option Bx}, (∀ b x, B b = some x → ∃ y, B0 b = some y ∧ x.fzd y) → Inv w0 A0 N L A T B0 a w → UpsR dst (r ++ rest) T B0 T1 B1 →
        ∃ A' B2, (∀ g o, A g o → A' g o) ∧ Inv w0 A0 N L A' T B2 a w ∧ UpsR dst rest T B2 T1 B1 ∧ FrzOk L w r A' ∧ (∀ b x, B b = some x → ∃ y, B2 b = some y ∧ x.fzd y) ∧ (∀ b, B0 b = none → B2 b = none)) →
      ∀ {B0 : Nat → Option Bx} {A : Sta} {T : Nat → AV} {T1 : Nat → AV} {B1 : Nat → Option Bx}, (∀ b x, B b = some x → ∃ y, B0 b = some y ∧ x.fzd y) → Inv w0 A0 N L A T B0 a w → UpsR dst ((b, some x') :: r ++ rest) T B0 T1 B1 →
        ∃ A' B2, (∀ g o, A g o → A' g o) ∧ Inv w0 A0 N L A' T B2 a w ∧ UpsR dst rest T B2 T1 B1 ∧ FrzOk L w ((b, some x') :: r) A' ∧ (∀ b x, B b = some x → ∃ y, B2 b = some y ∧ x.fzd y) ∧ (∀ b, B0 b = none → B2 b = none) := by
    intro b x x' r hx hxx hfr ih B0 A T T1 B1 hB hI hu
    obtain ⟨y, hy, hfy⟩ := hB b x hx
    rw [List.cons_append] at hu
    have hu' : UpsR dst (r ++ rest) T (upd B0 b (some x')) T1 B1 := by
      cases hu with
      | set _ _ _ h => exact h
      | new _ _ hn => rw [hy] at hn; cases hn
    obtain ⟨A1, hA1, hI1, hrep⟩ := hfr hy hfy hI
    obtain ⟨A', B2, k1, k2, k3, k4, k5, k6⟩ := ih (B0 := upd B0 b (some x')) (fun b' z hz => by
      by_cases e : b' = b
      · subst e
        rw [hx] at hz; cases hz
        exact ⟨x', upd_same _ _ _, hxx y hfy⟩
      · rw [upd_ne _ _ e]; exact hB b' z hz) hI1 hu'
    refine ⟨A', B2, fun g o hg => k1 _ _ (hA1 _ _ hg), k2, k3, ?_, k5, fun b' hb' => k6 b' ?_⟩
    · intro b' z hz
      rcases List.mem_cons.1 hz with h | h
      · exact hrep A' k1 b' z (by rw [h]; exact List.mem_cons_self)
      · exact k4 b' z h
    · by_cases e : b' = b
      · subst e; rw [hy] at hb'; cases hb'
      · rw [upd_ne _ _ e]; exact hb'
  have single : ∀ {b : Nat} {x' : Bx} {A'' : Sta}, (match x' with
    | .row _ sz es _ => Rep w A'' (.sl sz es) (L.hd b)
    | .var cs _ => ∀ o, o < cs.length → A'' (L.ι b) o
    | .arr es _ => ∀ o, o < es.length → A'' (L.ι b) o
    | .mat _ _ _ _ => False
    | .map _ _ _ _ => False
    | .iter _ _ _ => False
    | .gone => False) → FrzOk L w [(b, some x')] A'' := by
    intro b x' A'' h b' z hz
    simp only [List.mem_singleton, Prod.mk.injEq, Option.some.injEq] at hz
    obtain ⟨rfl, rfl⟩ := hz
    exact h
  induction hf with
  | nil =>
    intro B0 A T T1 B1 hB hI hu
    exact ⟨A, B0, fun _ _ h => h, hI, hu, (fun b x h => (by cases h)), hB, fun _ h => h⟩
  | @row b et sz es fz r h hr ih =>
    intro B0 A T T1 B1 hB hI hu
    refine go h (fun _ _ => ⟨true, rfl⟩) ?_ ih hB hI hu
    rintro B0 A T y hy ⟨fz0, rfl⟩ hI
    obtain ⟨A1, hA1, hI1, hrep⟩ := hI.freezeRow hy
    exact ⟨A1, hA1, hI1, fun A'' hA'' => single (hrep.frame hA'' fun _ _ _ => rfl)⟩
  | @var b cs fz r h hr ih =>
    intro B0 A T T1 B1 hB hI hu
    refine go h (fun _ _ => ⟨true, rfl⟩) ?_ ih hB hI hu
    rintro B0 A T y hy ⟨fz0, rfl⟩ hI
    exact ⟨_, fun _ _ h => .inl h, hI.freezeVar hy, fun A'' hA'' => single fun o ho => hA'' _ _ (.inr ⟨rfl, ho⟩)⟩
  | @arr b es fz r h hr ih =>
    intro B0 A T T1 B1 hB hI hu
    refine go h (fun _ _ => ⟨true, rfl⟩) ?_ ih hB hI hu
    rintro B0 A T y hy ⟨fz0, rfl⟩ hI
    exact ⟨_, fun _ _ h => .inl h, hI.freezeArr hy, fun A'' hA'' => single fun o ho => hA'' _ _ (.inr ⟨rfl, ho⟩)⟩
  | @mat b et ie v rs r h hr ih =>
    intro B0 A T T1 B1 hB hI hu
    refine go h (fun _ _ => .inr ⟨rs, true, rfl, rfl⟩) ?_ ih hB hI hu
    rintro B0 A T y hy hfy hI
    rcases hfy with rfl | ⟨rs', fz, hrs, rfl⟩
    · obtain ⟨A1, hA1, hI1, hrep⟩ := hI.freezeMat hy
      exact ⟨A1, hA1, hI1, fun A'' hA'' => single (hrep.frame hA'' fun _ _ _ => rfl)⟩
    · have e : rs = rs' := by
        have : ∀ {l l' : List (List D)}, List.map some l = List.map some l' → l = l' := fun {l l'} h => (List.map_inj_right (f := some) (by simp)).1 h
        exact this hrs
      subst e
      obtain ⟨A1, hA1, hI1, hrep⟩ := hI.freezeRow hy
      exact ⟨A1, hA1, hI1, fun A'' hA'' => single (hrep.frame hA'' fun _ _ _ => rfl)⟩

/-- Captured boxes frozen. -/
theorem frzCap_out (hI : Inv w0 A0 N L A T B a w) : ∀ {cs : List Cap} {us : List Value} {k : List D → List (Nat × Option Bx) → Res} {v : AV} {ups}, cs.length = us.length →
    (∀ (j : Nat) c u, cs[j]? = some c → us[j]? = some u → CapV L w A c u) → Out P oc (frzCap B cs k) v ups →
    ∃ ds fs, Out P oc (k ds fs) v ups ∧ Frz B fs ∧ ds.length = us.length ∧ ∀ A', (∀ g o, A g o → A' g o) → FrzOk L w fs A' → ∀ (j : Nat) c u, ds[j]? = some c → us[j]? = some u → Rep w A' c u
  | [], [], k, v, ups, _, _, ho => ⟨[], [], ho, .nil, rfl, fun _ _ _ j c u h => by simp at h⟩
  | [], _ :: _, _, _, _, h, _, _ => by cases h
  | _ :: _, [], _, _, _, h, _, _ => by cases h
  | x :: xs, u :: us, k, v, ups, hl, hr, ho => by
    have hx := hr 0 x u rfl rfl
    have rest := fun {k : List D → List (Nat × Option Bx) → Res} ho => frzCap_out hI (cs := xs) (us := us) (k := k) (v := v) (ups := ups) (by simpa using hl) (fun j c u h h' => hr (j + 1) c u (by simpa using h) (by simpa using h')) ho
    simp only [frzCap] at ho
    split at ho
    · rename_i d
      obtain ⟨ds, fs, ho, g1, g2, g3⟩ := rest ho
      refine ⟨d :: ds, fs, ho, g1, by simp [g2], fun A' hA hok j c u hc hu => ?_⟩
      cases j with
      | zero =>
        simp only [List.getElem?_cons_zero, Option.some.injEq] at hc hu
        subst hc; subst hu
        exact Rep.frame hA (fun _ _ _ => rfl) hx
      | succ j => simp only [List.getElem?_cons_succ] at hc hu; exact g3 A' hA hok j c u hc hu
    · rename_i b
      split at ho
      · rename_i cs fz hbx
        split at ho
        · rename_i dsl hds
          have hds := allD_spec hds
          subst hds
          split at ho
          · rename_i hone
            obtain ⟨ds, fs, ho, g1, g2, g3⟩ := rest ho
            refine ⟨.ref dsl 0 :: ds, (b, some (.var (dsl.map .d) true)) :: fs, ho, .var hbx g1, by simp [g2], fun A' hA hok j c u hc hu => ?_⟩
            cases j with
            | zero =>
              simp only [List.getElem?_cons_zero, Option.some.injEq] at hc hu
              subst hc; subst hu
              obtain ⟨C, t, h1, h2, h3, _⟩ := hI.bxs b _ hbx
              have hst := hok b _ List.mem_cons_self
              simp only [List.length_map] at hst h2
              have hcell : ∀ (j : Nat) c, dsl[j]? = some c → ∃ u, w.cell? ⟨L.ι b, j, none⟩ = some u ∧ Rep w A c u := by
                intro j c hc
                have hlt := lt_of_get hc
                obtain ⟨u, hu⟩ := arr_get (C := C) (j := j) (by omega)
                exact ⟨u, by rw [cell_of_row w (L.ι b) j C t (0, 0) h1]; exact hu, rv_d (h3 j (.d c) u (by simp [hc]) hu)⟩
              have hx : u = .pointer (some ⟨L.ι b, 0, none⟩) := hx
              rw [hx]
              refine Rep.ref (off := 0) (L.ι b) 0 (fun j => (w.cell? ⟨L.ι b, j, none⟩).getD undef) (by simpa using hone) (fun j c hc => ?_) fun j c hc => ?_
              · obtain ⟨u, q1, q2⟩ := hcell j c hc
                rw [Nat.zero_add, q1]
                exact ⟨hst j (lt_of_get hc), rfl⟩
              · obtain ⟨u, q1, q2⟩ := hcell j c hc
                rw [q1]
                exact q2.frame hA fun _ _ _ => rfl
            | succ j =>
              simp only [List.getElem?_cons_succ] at hc hu
              exact g3 A' hA (fun b x hx => hok b x (List.mem_cons_of_mem _ hx)) j c u hc hu
          · cases ho
        · cases ho
      · rename_i es fz hbx
        obtain ⟨ds, fs, ho, g1, g2, g3⟩ := rest ho
        refine ⟨.ref es 0 :: ds, (b, some (.arr es true)) :: fs, ho, .arr hbx g1, by simp [g2], fun A' hA hok j c u hc hu => ?_⟩
        cases j with
        | zero =>
          simp only [List.getElem?_cons_zero, Option.some.injEq] at hc hu
          subst hc; subst hu
          obtain ⟨C, t, h1, h2, h3, h4, _⟩ := hI.bxs b _ hbx
          have hst := hok b _ List.mem_cons_self
          simp only at hst
          have hcell : ∀ (j : Nat) c, es[j]? = some c → ∃ u, w.cell? ⟨L.ι b, j, none⟩ = some u ∧ Rep w A c u := by
            intro j c hc
            have hlt := lt_of_get hc
            obtain ⟨u, hu⟩ := arr_get (C := C) (j := j) (by omega)
            exact ⟨u, by rw [cell_of_row w (L.ι b) j C t (0, 0) h1]; exact hu, h4 j c u hc hu⟩
          have hx : u = .pointer (some ⟨L.ι b, 0, none⟩) := hx
          rw [hx]
          refine Rep.ref (off := 0) (L.ι b) 0 (fun j => (w.cell? ⟨L.ι b, j, none⟩).getD undef) h3 (fun j c hc => ?_) fun j c hc => ?_
          · obtain ⟨u, q1, q2⟩ := hcell j c hc
            rw [Nat.zero_add, q1]
            exact ⟨hst j (lt_of_get hc), rfl⟩
          · obtain ⟨u, q1, q2⟩ := hcell j c hc
            rw [q1]
            exact q2.frame hA fun _ _ _ => rfl
        | succ j =>
          simp only [List.getElem?_cons_succ] at hc hu
          exact g3 A' hA (fun b x hx => hok b x (List.mem_cons_of_mem _ hx)) j c u hc hu
      · cases ho

/-- One value frozen: it reads as data in every world state in which its boxes are frozen. -/
theorem frzK_out (hI : Inv w0 A0 N L A T B a w) {x : AV} {u : Value} {k : D → List (Nat × Option Bx) → Res} {v : AV} {ups} (hx : RV L w A x u) (ho : Out P oc (frzK B x k) v ups) :
    ∃ d us, Out P oc (k d us) v ups ∧ Frz B us ∧ ∀ A', (∀ g o, A g o → A' g o) → FrzOk L w us A' → Rep w A' d u := by
  unfold frzK at ho
  split at ho
  · exact ⟨_, _, ho, .nil, fun A' hA _ => (rv_d hx).frame hA fun _ _ _ => rfl⟩
  · exact ⟨_, _, ho, .nil, fun A' hA _ => by rw [rv_nil hx]; exact .slnil _ _ _⟩
  · split at ho
    · rename_i hbx
      exact ⟨_, _, ho, .row hbx .nil, fun A' hA hok => by rw [rv_own hx]; exact hok _ _ List.mem_cons_self⟩
    · rename_i hbx
      cases ho with
      | unM he ho =>
        subst he
        exact ⟨_, _, ho, .mat hbx .nil, fun A' hA hok => by rw [rv_own hx]; exact hok _ _ List.mem_cons_self⟩
    · cases ho
  · rename_i f cs
    cases hx with
    | @fnv _ _ vs hl hr =>
      obtain ⟨ds, fs, ho, g1, g2, g3⟩ := frzCap_out hI (us := vs.toList) (by simpa using hl) (fun j c u h h' => hr j c u h (by simpa using h')) ho
      exact ⟨_, _, ho, g1, fun A' hA hok => .fn (by simpa using g2) fun j c v hc hv => g3 A' hA hok j c v hc (by simpa using hv)⟩
  · cases ho
theorem FrzOk.left {us vs : List (Nat × Option Bx)} {A' : Sta} (h : FrzOk L w (us ++ vs) A') : FrzOk L w us A' := fun b x hx => h b x (List.mem_append_left _ hx)
theorem FrzOk.right {us vs : List (Nat × Option Bx)} {A' : Sta} (h : FrzOk L w (us ++ vs) A') : FrzOk L w vs A' := fun b x hx => h b x (List.mem_append_right _ hx)

theorem frzLK_out (hI : Inv w0 A0 N L A T B a w) : ∀ {xs : List AV} {us : List Value} {k : List D → List (Nat × Option Bx) → Res} {v : AV} {ups}, xs.length = us.length →
    (∀ (j : Nat) c u, xs[j]? = some c → us[j]? = some u → RV L w A c u) → Out P oc (frzLK B xs k) v ups →
    ∃ ds fs, Out P oc (k ds fs) v ups ∧ Frz B fs ∧ ds.length = us.length ∧ ∀ A', (∀ g o, A g o → A' g o) → FrzOk L w fs A' → ∀ (j : Nat) c u, ds[j]? = some c → us[j]? = some u → Rep w A' c u
  | [], [], k, v, ups, _, _, ho => ⟨[], [], ho, .nil, rfl, fun _ _ _ j c u h => by simp at h⟩
  | [], _ :: _, _, _, _, h, _, _ => by cases h
  | _ :: _, [], _, _, _, h, _, _ => by cases h
  | x :: xs, u :: us, k, v, ups, hl, hr, ho => by
    simp only [frzLK] at ho
    obtain ⟨d, f1, ho, h1, h2⟩ := frzK_out hI (hr 0 x u rfl rfl) ho
    obtain ⟨ds, fs, ho, g1, g2, g3⟩ := frzLK_out hI (xs := xs) (us := us) (by simpa using hl) (fun j c u h h' => hr (j + 1) c u (by simpa using h) (by simpa using h')) ho
    refine ⟨d :: ds, f1 ++ fs, ho, h1.app g1, by simp [g2], fun A' hA hok j c u hc hu => ?_⟩
    cases j with
    | zero => simp only [List.getElem?_cons_zero, Option.some.injEq] at hc hu; subst hc; subst hu; exact h2 A' hA hok.left
    | succ j => simp only [List.getElem?_cons_succ] at hc hu; exact g3 A' hA hok.right j c u hc hu

/-- A value that may be a struct. 'one' of its cells comes from the value. -/
theorem frzAK_out (hI : Inv w0 A0 N L A T B a w) {x : AV} {u : Value} {k : D → List (Nat × Option Bx) → Res} {v : AV} {ups} (hx : RV L w A x u) (ho : Out P oc (frzAK B x k) v ups) :
    ∃ d us, Out P oc (k d us) v ups ∧ Frz B us ∧ ∀ A', (∀ g o, A g o → A' g o) → FrzOk L w us A' → Rep w A' d u := by
  unfold frzAK at ho
  split at ho
  · rename_i cs
    cases hx with
    | @agg _ vs hl h1 hr =>
      obtain ⟨ds, fs, ho, g1, g2, g3⟩ := frzLK_out hI (us := vs.toList) (by simpa using hl) (fun j c u h h' => hr j c u h (by simpa using h')) ho
      refine ⟨_, _, ho, g1, fun A' hA hok => .agg (by simpa using g2) (fun c hc => ?_) fun j c u hc hu => g3 A' hA hok j c u hc (by simpa using hu)⟩
      obtain ⟨j, hj⟩ := List.getElem?_of_mem hc
      have hlt : j < vs.size := by have := lt_of_get hj; rw [g2] at this; simpa using this
      obtain ⟨u, hu⟩ := arr_get hlt
      have hcj : cs[j]? = some (cs[j]'(by omega)) := List.getElem?_eq_getElem (by omega)
      have hone := (hr j _ u hcj hu).oneV (h1 _ (List.mem_of_getElem? hcj))
      have hrep := g3 A' hA hok j c u hj (by simpa using hu)
      cases hrep <;> first | rfl | cases hone
  · exact frzK_out hI hx ho

theorem frzALK_out (hI : Inv w0 A0 N L A T B a w) : ∀ {xs : List AV} {us : List Value} {k : List D → List (Nat × Option Bx) → Res} {v : AV} {ups}, xs.length = us.length →
    (∀ (j : Nat) c u, xs[j]? = some c → us[j]? = some u → RV L w A c u) → Out P oc (frzALK B xs k) v ups →
    ∃ ds fs, Out P oc (k ds fs) v ups ∧ Frz B fs ∧ ds.length = us.length ∧ ∀ A', (∀ g o, A g o → A' g o) → FrzOk L w fs A' → ∀ (j : Nat) c u, ds[j]? = some c → us[j]? = some u → Rep w A' c u
  | [], [], k, v, ups, _, _, ho => ⟨[], [], ho, .nil, rfl, fun _ _ _ j c u h => by simp at h⟩
  | [], _ :: _, _, _, _, h, _, _ => by cases h
  | _ :: _, [], _, _, _, h, _, _ => by cases h
  | x :: xs, u :: us, k, v, ups, hl, hr, ho => by
    simp only [frzALK] at ho
    obtain ⟨d, f1, ho, h1, h2⟩ := frzAK_out hI (hr 0 x u rfl rfl) ho
    obtain ⟨ds, fs, ho, g1, g2, g3⟩ := frzALK_out hI (xs := xs) (us := us) (by simpa using hl) (fun j c u h h' => hr (j + 1) c u (by simpa using h) (by simpa using h')) ho
    refine ⟨d :: ds, f1 ++ fs, ho, h1.app g1, by simp [g2], fun A' hA hok j c u hc hu => ?_⟩
    cases j with
    | zero => simp only [List.getElem?_cons_zero, Option.some.injEq] at hc hu; subst hc; subst hu; exact h2 A' hA hok.left
    | succ j => simp only [List.getElem?_cons_succ] at hc hu; exact g3 A' hA hok.right j c u hc hu

theorem idRows : ∀ b x, B b = some x → ∃ y, B b = some y ∧ x.fzd y := fun _ x hx => ⟨x, hx, x.fzd_refl⟩

theorem rv_fn {f : FuncId} {caps : List D} {u : Value} (h : RV L w A (.d (.fn f caps)) u) : ∃ vs, u = .func (.func f) #[] vs ∧ caps.length = vs.size ∧ ∀ (j : Nat) c v, caps[j]? = some c → vs[j]? = some v → Rep w A c v := by
  cases rv_d h with
  | fn hl hr => exact ⟨_, rfl, hl, hr⟩

theorem zipResz_len : ∀ (xs : List AV) (ts : List TypeId), xs.length = ts.length → (zipResz S xs ts).length = xs.length
  | [], [], _ => rfl
  | [], _ :: _, h => by cases h
  | _ :: _, [], h => by cases h
  | x :: xs, t :: ts, h => by simp [zipResz, zipResz_len xs ts (by simpa using h)]
theorem zipResz_get : ∀ (xs : List AV) (ts : List TypeId) (j : Nat) c, (zipResz S xs ts)[j]? = some c → ∃ t x, xs[j]? = some x ∧ c = resz S t x
  | [], _, j, c, h => by simp [zipResz] at h
  | _ :: _, [], j, c, h => by simp [zipResz] at h
  | x :: xs, t :: ts, 0, c, h => by simp [zipResz] at h; exact ⟨t, x, rfl, h.symm⟩
  | x :: xs, t :: ts, j + 1, c, h => by simp only [zipResz, List.getElem?_cons_succ] at h ⊢; exact zipResz_get xs ts j c h

/-! Calls that are handed boxes. -/
theorem handL_sub : ∀ (f : Nat) (todo : List Nat) (acc : List (Nat × Bx)), (∀ b x, lk acc b = some x → B b = some x) → ∀ b x, lk (handL B f todo acc) b = some x → B b = some x
  | 0, _, _, h => h
  | _ + 1, [], _, h => h
  | f + 1, b0 :: r, acc, h => by
    simp only [handL]
    split
    · exact handL_sub f r acc h
    · split
      · rename_i x hx
        refine handL_sub f _ _ fun b y hy => ?_
        simp only [lk] at hy
        split at hy
        · rename_i e
          have := Nat.eq_of_beq_eq_true e
          subst this
          cases hy
          exact hx
        · exact h b y hy
      · exact handL_sub f r acc h
theorem handed_sub {xs : List AV} {b : Nat} {x : Bx} (h : lk (handed B xs) b = some x) : B b = some x := handL_sub 200 _ [] (fun b x h => by cases h) b x h
theorem hasB_lk {l : List (Nat × Bx)} {b : Nat} : hasB l b = true ↔ lk l b ≠ none := by
  induction l with
  | nil => simp [hasB, lk]
  | cons p r ih =>
    obtain ⟨k, x⟩ := p
    simp only [hasB, lk]
    cases Nat.beq k b with
    | true => simp
    | false => exact ih
theorem hasB_no {l : List (Nat × Bx)} {b : Nat} : hasB l b = false ↔ lk l b = none := by
  have := hasB_lk (l := l) (b := b)
  cases h : hasB l b with
  | true => simp [h] at this; simp [this]
  | false => simp [h] at this; simp [this]
theorem okN_mem {bx : List (Nat × Bx)} : ∀ {l : List Nat}, okN bx l = true → ∀ b ∈ l, lk bx b ≠ none
  | [], _, b, h => by cases h
  | c :: r, hl, b, h => by
    simp only [okN] at hl
    split at hl
    · rename_i hc
      cases h with
      | head => exact hasB_lk.1 hc
      | tail _ h => exact okN_mem hl b h
    · cases hl
theorem capMen_mem {b : Nat} : ∀ {cs : List Cap}, capMen b cs = true → b ∈ capMens cs
  | [], h => by cases h
  | c :: r, h => by
    cases c with
    | box b' =>
      simp only [capMen] at h
      simp only [capMens]
      split at h
      · rename_i e
        rw [Nat.eq_of_beq_eq_true e]; exact List.mem_cons_self
      · exact List.mem_cons_of_mem _ (capMen_mem h)
    | dat x => simp only [capMen] at h; simp only [capMens]; exact capMen_mem h
theorem men1_mens1 {c : AV} {b : Nat} (hl : c.leaf = true) (hm : c.men1 b = true) : b ∈ c.mens1 := by
  cases c <;> simp only [AV.men1] at hm <;> first
    | (cases hm; done)
    | (cases hl; done)
    | (have := Nat.eq_of_beq_eq_true hm; subst this; simp [AV.mens1])
    | (simp only [AV.mens1]; exact capMen_mem hm)
theorem mem_mensL {b : Nat} : ∀ {cs : List AV} {c : AV}, c ∈ cs → b ∈ c.mens1 → b ∈ AV.mensL cs
  | c' :: cs, c, hc, hb => by
    simp only [AV.mensL]
    cases hc with
    | head =>
      split
      · rename_i e; rw [e] at hb; cases hb
      · rename_i e; rw [e] at hb
        cases hb with
        | head => exact List.mem_cons_self
        | tail _ h => exact List.mem_cons_of_mem _ (List.mem_append_left _ h)
    | tail _ hc =>
      have := mem_mensL hc hb
      split
      · exact this
      · exact List.mem_cons_of_mem _ (List.mem_append_right _ this)
theorem menL_mensL {b : Nat} {cs : List AV} (hl : leafL cs = true) (hm : AV.menL b cs = true) : b ∈ AV.mensL cs := by
  obtain ⟨c, hc, hb⟩ := menL_iff.1 hm
  refine mem_mensL hc (men1_mens1 ?_ hb)
  have : ∀ {l : List AV}, leafL l = true → ∀ c ∈ l, c.leaf = true := by
    intro l
    induction l with
    | nil => intro _ c h; cases h
    | cons d l ih =>
      intro h c hc
      simp only [leafL] at h
      split at h
      · rename_i h1
        cases hc with
        | head => exact h1
        | tail _ hc => exact ih h c hc
      · cases h
  exact this hl c hc
theorem men2_mens2 {c : AV} {b : Nat} (hl : c.wf2 = true) (hm : c.men2 b = true) : b ∈ c.mens2 := by
  cases c with
  | agg cs => exact menL_mensL hl hm
  | tup => cases hl
  | d x => cases hm
  | ptr b' o => exact men1_mens1 (c := .ptr b' o) rfl hm
  | eptr b' s i o => exact men1_mens1 (c := .eptr b' s i o) rfl hm
  | own b' s n => exact men1_mens1 (c := .own b' s n) rfl hm
  | fnv f cs => exact men1_mens1 (c := .fnv f cs) rfl hm
  | sptr b' s i j => exact men1_mens1 (c := .sptr b' s i j) rfl hm
  | sub b' v i => exact men1_mens1 (c := .sub b' v i) rfl hm
  | mptr b' v i j => exact men1_mens1 (c := .mptr b' v i j) rfl hm
  | mp b' => exact men1_mens1 (c := .mp b') rfl hm
  | view b' s i j => exact men1_mens1 (c := .view b' s i j) rfl hm
  | nil => cases hm
  | undef => cases hm
  | junk => cases hm
theorem mens_men {v : AV} {b : Nat} {bx : List (Nat × Bx)} (h : v.okIn bx = true) (hm : v.men b = true) : b ∈ v.mens := by
  unfold AV.okIn at h
  split at h
  · rename_i hwf
    cases v with
    | agg cs => exact menL_mensL hwf hm
    | tup cs =>
      have key : ∀ {l : List AV}, wfT l = true → AV.menT b l = true → b ∈ AV.mensT l := by
        intro l
        induction l with
        | nil => intro _ h; cases h
        | cons c l ih =>
          intro h hm
          simp only [wfT] at h
          simp only [AV.menT] at hm
          split at h
          · rename_i h1
            simp only [AV.mensT]
            split at hm
            · rename_i h2
              have := men2_mens2 h1 h2
              split
              · rename_i e; rw [e] at this; cases this
              · rename_i e; rw [e] at this
                cases this with
                | head => exact List.mem_cons_self
                | tail _ h => exact List.mem_cons_of_mem _ (List.mem_append_left _ h)
            · have := ih h hm
              split
              · exact this
              · exact List.mem_cons_of_mem _ (List.mem_append_right _ this)
          · cases h
      exact key hwf hm
    | d x => cases hm
    | ptr b' o => exact men1_mens1 (c := .ptr b' o) rfl hm
    | eptr b' s i o => exact men1_mens1 (c := .eptr b' s i o) rfl hm
    | own b' s n => exact men1_mens1 (c := .own b' s n) rfl hm
    | fnv f cs => exact men1_mens1 (c := .fnv f cs) rfl hm
    | sptr b' s i j => exact men1_mens1 (c := .sptr b' s i j) rfl hm
    | sub b' v i => exact men1_mens1 (c := .sub b' v i) rfl hm
    | mptr b' v i j => exact men1_mens1 (c := .mptr b' v i j) rfl hm
    | mp b' => exact men1_mens1 (c := .mp b') rfl hm
    | view b' s i j => exact men1_mens1 (c := .view b' s i j) rfl hm
    | nil => cases hm
    | undef => cases hm
    | junk => cases hm
  · cases h
theorem okIn_lk {v : AV} {b : Nat} {bx : List (Nat × Bx)} (h : v.okIn bx = true) (hm : v.men b = true) : lk bx b ≠ none := by
  have h1 := mens_men h hm
  unfold AV.okIn at h
  split at h
  · exact okN_mem h b h1
  · cases h
theorem bx_mens_men {x : Bx} {b : Nat} {bx : List (Nat × Bx)} (h : x.okIn bx = true) (hm : x.men b = true) : b ∈ x.mens := by
  cases x with
  | var cs fz =>
    simp only [Bx.okIn] at h
    split at h
    · rename_i hl; exact menL_mensL hl hm
    · cases h
  | iter m n seen =>
    cases m with
    | none => cases hm
    | some c => rw [Nat.eq_of_beq_eq_true hm]; exact List.mem_cons_self
  | _ => cases hm
theorem bx_okIn_lk {x : Bx} {b : Nat} {bx : List (Nat × Bx)} (h : x.okIn bx = true) (hm : x.men b = true) : lk bx b ≠ none := by
  have h1 := bx_mens_men h hm
  cases x with
  | var cs fz =>
    simp only [Bx.okIn] at h
    split at h
    · exact okN_mem h b h1
    · cases h
  | iter m n seen =>
    cases m with
    | none => cases hm
    | some c => exact okN_mem h b h1
  | _ => cases hm
theorem okXs_get {bx : List (Nat × Bx)} : ∀ {xs : List AV}, okXs bx xs = true → ∀ (j : Nat) c b, xs[j]? = some c → c.men b = true → lk bx b ≠ none
  | [], _, j, c, b, h, _ => by simp at h
  | v :: r, h, j, c, b, hc, hm => by
    simp only [okXs] at h
    split at h
    · rename_i hv
      cases j with
      | zero => simp only [List.getElem?_cons_zero, Option.some.injEq] at hc; subst hc; exact okIn_lk hv hm
      | succ j => exact okXs_get h j c b (by simpa using hc) hm
    · cases h
theorem okCl_get {bx : List (Nat × Bx)} : ∀ {l : List (Nat × Bx)}, okCl bx l = true → ∀ b x b', lk l b = some x → x.men b' = true → lk bx b' ≠ none
  | [], _, b, x, b', h, _ => by cases h
  | (k, y) :: r, h, b, x, b', hx, hm => by
    simp only [okCl] at h
    split at h
    · rename_i hv
      simp only [lk] at hx
      split at hx
      · cases hx; exact bx_okIn_lk hv hm
      · exact okCl_get h b x b' hx hm
    · cases h

/-- The boxes' turns at a call: what is in 'us' turns, in one stroke. -/
theorem ups_us {dst : Option Nat} {hs : List (Nat × Bx)} : ∀ {us seen : List (Nat × Bx)} {T T1 : Nat → AV} {B B1 : Nat → Option Bx}, okUs dst hs us seen = true → UpsR dst (someU us) T B T1 B1 →
    T1 = T ∧ (∀ b, B1 b = match lk us b with | some x => some x | none => B b) ∧ (∀ b, lk us b ≠ none → lk seen b = none) ∧ (∀ b, lk us b ≠ none → lk hs b = none → B b = none ∧ pinned b = false) ∧
      (∀ b, lk hs b ≠ none → lk seen b ≠ none ∨ lk us b ≠ none) ∧ (∀ b, lk us b ≠ none → lk hs b ≠ none ∨ isNew dst b = true)
  | [], seen, T, T1, B, B1, ho, hu => by
    cases hu
    refine ⟨rfl, fun b => rfl, fun b h => absurd rfl h, fun b h => absurd rfl h, fun b hb => .inl ?_, fun b h => absurd rfl h⟩
    simp only [okUs] at ho
    have : ∀ {l : List (Nat × Bx)}, okUs.coversL seen l = true → lk l b ≠ none → lk seen b ≠ none := by
      intro l
      induction l with
      | nil => intro _ h; exact absurd rfl h
      | cons p r ih =>
        obtain ⟨k, x⟩ := p
        intro h hb
        simp only [okUs.coversL] at h
        split at h
        · rename_i hk
          simp only [lk] at hb
          split at hb
          · rename_i e; rw [← Nat.eq_of_beq_eq_true e]; exact hasB_lk.1 hk
          · exact ih h hb
        · cases h
    exact this ho hb
  | (k, x) :: r, seen, T, T1, B, B1, ho, hu => by
    have hk : lk seen k = none ∧ (lk hs k ≠ none ∨ isNew dst k = true) ∧ okUs dst hs r ((k, x) :: seen) = true := by
      simp only [okUs] at ho
      split at ho
      · rename_i h1 h2; exact ⟨hasB_no.1 h1, .inl (hasB_lk.1 h2), ho⟩
      · rename_i h1 h2 h3; exact ⟨hasB_no.1 h1, .inr h3, ho⟩
      · cases ho
    obtain ⟨k1, k2, k3⟩ := hk
    have hu' : UpsR dst (someU r) T (upd B k (some x)) T1 B1 ∧ (lk hs k = none → B k = none ∧ pinned k = false) := by
      simp only [someU] at hu
      cases hu with
      | set hd hb _ h =>
        refine ⟨h, fun hn => ?_⟩
        rcases k2 with h1 | h1
        · exact absurd hn h1
        · rw [hd] at h1; cases h1
      | new _ hlt hb _ h => exact ⟨h, fun _ => ⟨hb, hlt⟩⟩
    obtain ⟨r1, r2, r3, r4, r5, r6⟩ := ups_us k3 hu'.1
    have hrk : lk r k = none := by
      cases h : lk r k with
      | none => rfl
      | some y =>
        have := r3 k (by rw [h]; simp)
        simp [lk, Nat.beq_refl] at this
    have hlk : ∀ b, lk ((k, x) :: r) b = if k = b then some x else lk r b := by
      intro b
      simp only [lk]
      by_cases e : k = b
      · subst e; rw [Nat.beq_refl, if_pos rfl]
      · rw [if_neg e]
        have : Nat.beq k b = false := by
          cases h : Nat.beq k b with
          | false => rfl
          | true => exact absurd (Nat.eq_of_beq_eq_true h) e
        rw [this]
    have hseen : ∀ b, b ≠ k → lk ((k, x) :: seen) b = lk seen b := by
      intro b e
      simp only [lk]
      have : Nat.beq k b = false := by
        cases h : Nat.beq k b with
        | false => rfl
        | true => exact absurd (Nat.eq_of_beq_eq_true h).symm e
      rw [this]
    refine ⟨r1, fun b => ?_, fun b hb => ?_, fun b hb hn => ?_, fun b hb => ?_, fun b hb => ?_⟩
    · rw [r2 b, hlk]
      by_cases e : k = b
      · subst e; rw [hrk, if_pos rfl, upd_same]
      · rw [if_neg e]
        cases lk r b with
        | some y => rfl
        | none => exact upd_ne _ _ fun e' => e e'.symm
    · rw [hlk] at hb
      by_cases e : k = b
      · subst e; exact k1
      · rw [if_neg e] at hb
        have := r3 b hb
        rwa [hseen b fun e' => e e'.symm] at this
    · rw [hlk] at hb
      by_cases e : k = b
      · subst e; exact hu'.2 hn
      · rw [if_neg e] at hb
        have := r4 b hb hn
        rwa [upd_ne _ _ fun e' => e e'.symm] at this
    · by_cases e : k = b
      · subst e; right; rw [hlk, if_pos rfl]; simp
      · rw [hlk, if_neg e]
        rcases r5 b hb with h | h
        · rw [hseen b fun e' => e e'.symm] at h; exact .inl h
        · exact .inr h
    · rw [hlk] at hb
      by_cases e : k = b
      · subst e; exact k2
      · rw [if_neg e] at hb; exact r6 b hb

theorem callX_sound (hI : Inv w0 A0 N L A T B a w) {o : Oper} {f : FuncId} {xs : List AV} {vals : Array Value} {v : AV} {ups} {T1 T2 : Nat → AV} {B1 : Nat → Option Bx} {K : Act → World → Prop} {Q : Exit → Act → World → Prop}
    (hl : xs.length = vals.size) (hr : ∀ (j : Nat) c u, xs[j]? = some c → vals[j]? = some u → RV L w A c u) (ho : Out P oc (callXOf B o.dst f xs) v ups) (hu : UpsR o.dst ups T B T1 B1) (hp : PutR N o.dst v T1 B1 T2)
    (hrun : ∀ fd, P.funcs[f]? = some fd → (fd.name == "runtime.NumGoroutine") = false → fd.body.isNone = false → (execOp a.eval o).run P w = .ok (.enter f vals) w)
    (hK : ∀ L' A' a' w', Inv w0 A0 N L' A' T2 B1 a' w' → K a' w') : o.wp P a w K Q := by
  unfold callXOf at ho
  cases ho with
  | @callX _ _ _ _ us _ hev hok =>
    rw [Bool.and_eq_true, Bool.and_eq_true] at hok
    obtain ⟨⟨ok1, ok2⟩, ok3⟩ := hok
    obtain ⟨fd, hfd, hnm, hbody⟩ := hev.fn
    have hH : HOk w0.B0 L w A (handed B xs) := by
      refine ⟨fun b x hx => hI.bxs b x (handed_sub hx), fun b x g hx hg => ?_, fun b b' x x' g h h' => hI.inj b b' x x' g (handed_sub h) (handed_sub h'), okCl_get ok3⟩
      have := hI.lo b x g (handed_sub hx) hg
      exact ⟨Ent.own_le this.1, this.2⟩
    have hc := hev.run w0.B0 w A L vals hI.below.b0 hI.Aok hl hr (okXs_get ok2) hH
    unfold Oper.wp
    rw [hrun fd hfd hnm hbody]
    refine hc.mono fun e w' h => ?_
    obtain ⟨u, A', L', rfl, hv, p1, p2, p3, p4, p5, p6, p7, p8, p9, q1, q2, q3, q4⟩ := h
    obtain ⟨hT, u2, -, u4, u5, -⟩ := ups_us ok1 hu
    have hT := hT.symm
    subst hT
    have inUs : ∀ b, lk (handed B xs) b ≠ none → lk us b ≠ none := fun b hb => by
      rcases u5 b hb with h | h
      · exact absurd rfl h
      · exact h
    let L2 : Lay := { ι := fun b => if lk us b = none then L.ι b else L'.ι b, hd := fun b => if lk us b = none then L.hd b else L'.hd b, sub := fun b => if lk us b = none then L.sub b else L'.sub b, top := fun b => if lk us b = none then L.top b else L'.top b }
    have e1 : ∀ b, lk us b ≠ none → L2.eqAt L' b := by
      intro b hb
      refine ⟨if_neg hb, if_neg hb, Nat.le_of_eq (if_neg hb).symm, fun v _ i => ?_⟩
      show (if lk us b = none then L.sub b else L'.sub b) v i = _
      rw [if_neg hb]
    have t1 : ∀ b, lk us b ≠ none → L2.top b = L'.top b := fun b hb => if_neg hb
    have e2 : ∀ b, lk us b = none → L2.eqAt L b := by
      intro b hb
      refine ⟨if_pos hb, if_pos hb, Nat.le_of_eq (if_pos hb).symm, fun v _ i => ?_⟩
      show (if lk us b = none then L.sub b else L'.sub b) v i = _
      rw [if_pos hb]
    have brL : ∀ b x, lk us b = some x → BR w0.B0 L2 w' A' b x ∧ ∀ g, own L2 b x g ↔ own L' b x g := by
      intro b x hx
      have hb : lk us b ≠ none := by rw [hx]; simp
      exact ⟨(q1.br b x hx).keep (fun _ _ h => h) (fun _ _ _ => rfl) (fun _ _ => rfl) (fun _ _ _ h => h) (e1 b hb) (t1 b hb) fun b' hm => e1 b' (q1.cl b x b' hx hm), fun g => own_eq (e1 b hb) (q1.br b x hx).ver⟩
    have hB1 : ∀ b x, lk us b ≠ none → B1 b = some x → lk us b = some x := by
      intro b x hb hx
      rw [u2 b] at hx
      cases h : lk us b with
      | none => exact absurd h hb
      | some y => rw [h] at hx; exact hx
    have hI' : Inv w0 A0 N L2 A' T B1 a w' := by
      refine hI.turns (fun b => lk us b ≠ none) (fun g => claims L (handed B xs) g ∨ (w.heap.size ≤ g ∧ g < w'.heap.size)) p1 p2 p3 p4 (fun g hg => ?_) (fun g b x hg hk hx ho => ?_)
        (fun k hk hg => p5 k hk fun h => hg (.inl h)) p7 p6 p8 (fun g o hg => ?_) (fun b hb => ?_) (fun b hk _ => ?_) (fun b hk => ?_) (fun b hb => ?_) (fun b hp hb => ?_) (fun b x hk hx => ?_) (fun b b' x x' g hk hk' hx hx' ho ho' => ?_) (fun b x b' hk hx hm => ?_)
      · rcases hg with ⟨b, x, hx, ho⟩ | ⟨h1, h2⟩
        · have := hI.lo b x g (handed_sub hx) ho
          exact ⟨this.1, by omega⟩
        · have := hI.below.size
          exact ⟨.inl (by omega), h2⟩
      · rcases hg with ⟨b', x', hx', ho'⟩ | ⟨h1, h2⟩
        · have := hI.inj b b' x x' g hx (handed_sub hx') ho ho'
          subst this
          exact hk (inUs b (by rw [hx']; simp))
        · have := (hI.lo b x g hx ho).2
          omega
      · rcases p9 g o hg with h | h | h
        · exact .inl h
        · exact .inr (.inr ⟨h, p8 g o hg⟩)
        · exact .inr (.inl h)
      · by_cases hk : lk us b = none
        · exact e2 b hk
        · by_cases hh : lk (handed B xs) b = none
          · exact absurd (u4 b hk hh).1 hb
          · exact (e1 b hk).trans (q3 b hh hk)
      · exact if_pos (Classical.not_not.1 hk)
      · rw [u2 b, Classical.not_not.1 hk]
      · rw [u2 b]
        cases lk us b with
        | some y => simp
        | none => exact hb
      · by_cases hk : lk us b = none
        · rw [u2 b, hk] at hb; exact hb
        · by_cases hh : lk (handed B xs) b = none
          · rw [(u4 b hk hh).2] at hp; cases hp
          · cases h : lk (handed B xs) b with
            | none => exact absurd h hh
            | some y => rw [handed_sub h]; simp
      · have hx := hB1 b x hk hx
        obtain ⟨g1, g2⟩ := brL b x hx
        refine ⟨g1, fun g hg => ?_⟩
        have hg := (g2 g).1 hg
        rcases q2 g ⟨b, x, hx, hg⟩ with h | h
        · exact .inr ⟨h, (q1.lo b x g hx hg).2⟩
        · exact .inl h
      · have hx := hB1 b x hk hx
        have hx' := hB1 b' x' hk' hx'
        exact q1.inj b b' x x' g hx hx' ((brL b x hx).2 g |>.1 ho) ((brL b' x' hx').2 g |>.1 ho')
      · have hx := hB1 b x hk hx
        have := q1.cl b x b' hx hm
        rw [u2 b']
        cases h : lk us b' with
        | some y => simp
        | none => exact absurd h this
    exact hK _ _ _ _ (fin hI' (hv.frame' (fun _ _ h => h) (fun _ _ _ => rfl) fun b hb => e1 b (q4 b hb)) hp)

theorem capL_spec : ∀ {vs : List AV} {cs : List Cap}, capL vs = some cs → cs.length = vs.length ∧ ∀ (j : Nat) c x, cs[j]? = some c → vs[j]? = some x → (∃ b, c = .box b ∧ x = .ptr b 0) ∨ ∃ d, c = .dat d ∧ x = .d d
  | [], cs, h => by simp only [capL] at h; cases h; exact ⟨rfl, fun j c x h => by simp at h⟩
  | v :: vs, cs, h => by
    simp only [capL] at h
    split at h
    · rename_i r hr
      obtain ⟨h1, h2⟩ := capL_spec hr
      split at h
      · cases h
        refine ⟨by simp [h1], fun j c x hc hx => ?_⟩
        cases j with
        | zero => simp only [List.getElem?_cons_zero, Option.some.injEq] at hc hx; subst hc; subst hx; exact .inl ⟨_, rfl, rfl⟩
        | succ j => exact h2 j c x (by simpa using hc) (by simpa using hx)
      · cases h
        refine ⟨by simp [h1], fun j c x hc hx => ?_⟩
        cases j with
        | zero => simp only [List.getElem?_cons_zero, Option.some.injEq] at hc hx; subst hc; subst hx; exact .inr ⟨_, rfl, rfl⟩
        | succ j => exact h2 j c x (by simpa using hc) (by simpa using hx)
      · cases h
    · cases h
theorem capAV_rv : ∀ {cs : List Cap} {vs : List Value}, cs.length = vs.length → (∀ (j : Nat) c u, cs[j]? = some c → vs[j]? = some u → CapV L w A c u) → (capAV cs).length = vs.length ∧ ∀ (j : Nat) c u, (capAV cs)[j]? = some c → vs[j]? = some u → RV L w A c u
  | [], [], _, _ => ⟨rfl, fun j c u h => by simp [capAV] at h⟩
  | [], _ :: _, h, _ => by cases h
  | _ :: _, [], h, _ => by cases h
  | c :: cs, u :: us, hl, hr => by
    obtain ⟨h1, h2⟩ := capAV_rv (cs := cs) (vs := us) (by simpa using hl) fun j c u h h' => hr (j + 1) c u (by simpa using h) (by simpa using h')
    have h0 := hr 0 c u rfl rfl
    cases c with
    | box b =>
      refine ⟨by simp [capAV, h1], fun j c' u' hc hu => ?_⟩
      cases j with
      | zero =>
        simp only [capAV, List.getElem?_cons_zero, Option.some.injEq] at hc hu
        subst hc; subst hu
        rw [show u = _ from h0]
        exact .ptr b 0
      | succ j => simp only [capAV, List.getElem?_cons_succ] at hc hu; exact h2 j c' u' hc hu
    | dat x =>
      refine ⟨by simp [capAV, h1], fun j c' u' hc hu => ?_⟩
      cases j with
      | zero =>
        simp only [capAV, List.getElem?_cons_zero, Option.some.injEq] at hc hu
        subst hc; subst hu
        exact .d h0
      | succ j => simp only [capAV, List.getElem?_cons_succ] at hc hu; exact h2 j c' u' hc hu

theorem app_rv {xs ys : List AV} {us vs : Array Value} (hl : xs.length = us.size) (hr : ∀ (j : Nat) c u, xs[j]? = some c → us[j]? = some u → RV L w A c u) (hr' : ∀ (j : Nat) c u, ys[j]? = some c → vs[j]? = some u → RV L w A c u) :
    ∀ (j : Nat) c u, (xs ++ ys)[j]? = some c → (us ++ vs)[j]? = some u → RV L w A c u := by
  intro j c u hc hu
  rw [List.getElem?_append] at hc
  rw [Array.getElem?_append] at hu
  rw [hl] at hc
  split at hc
  · rename_i hlt
    rw [if_pos hlt] at hu
    exact hr j c u hc hu
  · rename_i hlt
    rw [if_neg hlt] at hu
    exact hr' _ c u hc hu

theorem s_callF {dst type pos after guard} (f : Operand) (args : Array Operand) (argTypes : Array TypeId) : Sound P S ⟨dst, .call { callee := .value f, args := args, argTypes := argTypes }, type, pos, after, guard⟩ := by
  refine ⟨?_⟩
  intro w0 A0 N L A T B a w v ups T1 B1 T2 K Q oc dr hoc hI ho hu hp hK
  have hf := ev_rv hI f
  have hargs : args.size = argTypes.size → (zipResz S (args.toList.map (evA T)) argTypes.toList).length = (args.map a.eval).size ∧
      ∀ (j : Nat) c u, (zipResz S (args.toList.map (evA T)) argTypes.toList)[j]? = some c → (args.map a.eval)[j]? = some u → RV L w A c u := by
    intro hlen
    refine ⟨by rw [zipResz_len _ _ (by simpa using hlen)]; simp, fun j c u hc hu => ?_⟩
    obtain ⟨t, x, hx, rfl⟩ := zipResz_get _ _ j c hc
    rw [← Array.getElem?_toList] at hu
    simp only [Array.toList_map, List.getElem?_map, Option.map_eq_some_iff] at hx hu
    obtain ⟨p, hp1, rfl⟩ := hx
    obtain ⟨q, hq1, rfl⟩ := hu
    rw [hp1] at hq1; cases hq1
    exact resz_rv (ev_rv hI p)
  have hrun : ∀ (fn : FuncId) (vs : Array Value), a.eval f = .func (.func fn) #[] vs → ∀ fd, P.funcs[fn]? = some fd → (fd.name == "runtime.NumGoroutine") = false → fd.body.isNone = false →
      (execOp a.eval ⟨dst, .call { callee := .value f, args := args, argTypes := argTypes }, type, pos, after, guard⟩).run P w = .ok (.enter fn (args.map a.eval ++ vs)) w := by
    intro fn vs hv fd hfd hnm hbody
    have n1 : ¬ fd.name = "runtime.NumGoroutine" := by simpa using hnm
    have n2 : ¬ fd.body = none := by intro h; rw [h] at hbody; cases hbody
    simp [execOp, resolve, Deferred.ofValue, hv, invoke, callFunc, hfd, n1, n2]
  -- a call of data
  have pure : ∀ (fn : FuncId) (vs : Array Value) (ds : List D) (fs : List (Nat × Option Bx)), a.eval f = .func (.func fn) #[] vs → args.size = argTypes.size → Out P oc (.call fn ds fs) v ups → Frz B fs → ds.length = (args.map a.eval ++ vs).size →
      (∀ A', (∀ g o, A g o → A' g o) → FrzOk L w fs A' → ∀ (j : Nat) c u, ds[j]? = some c → (args.map a.eval ++ vs)[j]? = some u → Rep w A' c u) →
      Oper.wp P ⟨dst, .call { callee := .value f, args := args, argTypes := argTypes }, type, pos, after, guard⟩ a w K Q := by
    intro fn vs ds fs hv hlen ho g1 g2 g3
    cases ho with
    | @call f args' r ups hev =>
      obtain ⟨A', B2, k1, k2, k3, k4, k5, k6⟩ := frz_ups (rest := []) g1 idRows hI (by simpa using hu)
      cases k3
      obtain ⟨⟨fd, hfd, hnm, hbody⟩, hcalls⟩ := hev
      have hc := hcalls w A' (args.map a.eval ++ vs) (fun g o hg => k2.Aok g o hg) g2 (g3 A' k1 k4)
      unfold Oper.wp
      rw [hrun fn vs hv fd hfd hnm hbody]
      refine hc.mono fun e w' h => ?_
      obtain ⟨v, A'', rfl, hrep, hbel, m1, m2, m3⟩ := h
      have hI' := k2.world hbel m1 m2 m3
      exact hK _ _ _ _ (fin hI' (.d hrep) hp)
  simp only [eff] at ho
  split at ho
  · rename_i fn caps hfn
    rw [hfn] at hf
    obtain ⟨vs, hv, hl, hr⟩ := rv_fn hf
    split at ho
    · rename_i hlen
      have hlen : args.size = argTypes.size := Nat.eq_of_beq_eq_true hlen
      obtain ⟨a1, a2⟩ := hargs hlen
      cases ho with
      | altL ho =>
        obtain ⟨ds, fs, ho, g1, g2, g3⟩ := frzALK_out hI (us := (args.map a.eval).toList) (by rw [a1]; simp) (fun j c u hc hu => a2 j c u hc (by simpa using hu)) ho
        refine pure fn vs _ fs hv hlen ho g1 (by rw [List.length_append, g2, hl]; simp) fun A' hA hok j c u hc hu => ?_
        rw [List.getElem?_append] at hc
        rw [Array.getElem?_append] at hu
        have e1 : ds.length = (args.map a.eval).size := by rw [g2]; simp
        rw [e1] at hc
        split at hc
        · rename_i hlt
          rw [if_pos hlt] at hu
          exact g3 A' hA hok j c u hc (by rw [← Array.getElem?_toList] at hu; exact hu)
        · rename_i hlt
          rw [if_neg hlt] at hu
          exact (hr _ c u hc hu).frame hA fun _ _ _ => rfl
      | altR ho =>
        refine callX_sound (xs := zipResz S (args.toList.map (evA T)) argTypes.toList ++ caps.map .d) hI (vals := args.map a.eval ++ vs) (by rw [List.length_append, a1, List.length_map, hl]; simp) (app_rv a1 a2 fun j c u hc hu => ?_) ho hu hp (hrun fn vs hv) hK
        simp only [List.getElem?_map, Option.map_eq_some_iff] at hc
        obtain ⟨d, hd, rfl⟩ := hc
        exact .d (hr j d u hd hu)
    · cases ho
  · rename_i fn caps hfn
    rw [hfn] at hf
    generalize hv : a.eval f = uf at hf
    cases hf with
    | @fnv _ _ vs hl hr =>
      split at ho
      · rename_i hlen
        have hlen : args.size = argTypes.size := Nat.eq_of_beq_eq_true hlen
        obtain ⟨a1, a2⟩ := hargs hlen
        cases ho with
        | altL ho =>
          obtain ⟨ds, fs, ho, g1, g2, g3⟩ := frzALK_out hI (us := (args.map a.eval).toList) (by rw [a1]; simp) (fun j c u hc hu => a2 j c u hc (by simpa using hu)) ho
          obtain ⟨ds', fs', ho, g1', g2', g3'⟩ := frzCap_out hI (us := vs.toList) (by simpa using hl) (fun j c u h h' => hr j c u h (by simpa using h')) ho
          refine pure fn vs _ _ hv hlen ho (g1.app g1') (by rw [List.length_append, g2, g2']; simp) fun A' hA hok j c u hc hu => ?_
          rw [List.getElem?_append] at hc
          rw [Array.getElem?_append] at hu
          have e1 : ds.length = (args.map a.eval).size := by rw [g2]; simp
          rw [e1] at hc
          split at hc
          · rename_i hlt
            rw [if_pos hlt] at hu
            exact g3 A' hA hok.left j c u hc (by rw [← Array.getElem?_toList] at hu; exact hu)
          · rename_i hlt
            rw [if_neg hlt] at hu
            exact g3' A' hA hok.right _ c u hc (by rw [← Array.getElem?_toList] at hu; exact hu)
        | altR ho =>
          obtain ⟨c1, c2⟩ := capAV_rv (cs := caps) (vs := vs.toList) (by simpa using hl) fun j c u h h' => hr j c u h (by simpa using h')
          exact callX_sound (xs := zipResz S (args.toList.map (evA T)) argTypes.toList ++ capAV caps) hI (vals := args.map a.eval ++ vs) (by rw [List.length_append, a1, c1]; simp) (app_rv a1 a2 fun j c u hc hu => c2 j c u hc (by simpa using hu)) ho hu hp (hrun fn vs hv) hK
      · cases ho
  · cases ho

theorem s_makeFunc {dst type pos after guard} (fn : Fn) (first caps : Array Operand) : Sound P S ⟨dst, .makeFunc fn first caps, type, pos, after, guard⟩ := by
  refine ⟨?_⟩
  intro w0 A0 N L A T B a w v ups T1 B1 T2 K Q oc dr hoc hI ho hu hp hK
  simp only [eff] at ho
  refine outV hI ho hu hp hK ?_
  split at ho
  · rename_i f hfirst
    split at ho
    · rename_i cs hcs
      cases ho
      obtain ⟨h1, h2⟩ := capL_spec hcs
      have hf : first = #[] := by
        obtain ⟨l⟩ := first
        simp only at hfirst
        rw [hfirst]
      subst hf
      refine ⟨rfl, .func (.func f) #[] (caps.map a.eval), ?_, .fnv (by rw [h1]; simp) fun j c u hc hu => ?_⟩
      · simp [execOp, Instr.makeFunc]
      · have hlt := lt_of_get hc
        rw [h1] at hlt
        have hx : (caps.toList.map (evA T))[j]? = some ((caps.toList.map (evA T))[j]) := List.getElem?_eq_getElem hlt
        rw [← Array.getElem?_toList] at hu
        simp only [Array.toList_map, List.getElem?_map, Option.map_eq_some_iff] at hu
        obtain ⟨p, hp1, rfl⟩ := hu
        have hx' : (caps.toList.map (evA T))[j]? = some (evA T p) := by simp [hp1]
        have hr := ev_rv hI p
        rcases h2 j c _ hc hx' with ⟨b, rfl, he⟩ | ⟨d, rfl, he⟩
        · rw [he] at hr; exact rv_ptr hr
        · rw [he] at hr; exact rv_d hr
    · cases ho
  · cases ho
end
end Go.Vm
end

section
/- Each operation, ninth part: equality, literals, make. -/
namespace Go.Vm
open Go.RowKit (Below)
section
variable {P : Program} {S : Tys} {oc : Option Orc}
variable {w0 : Ent} {A0 : Sta} {N : Nat} {L : Lay} {A : Sta} {T : Nat → AV} {B : Nat → Option Bx} {a : Act} {w : World}
theorem eqvF_sound (hS : TysOk P S) {X Y : Array Value} (d : Nat) : ∀ (fs : List Field) (i : Nat) (as bs : List D) (r : Bool), eqvF S fs i as bs = some r → (∀ f ∈ fs, f.name ≠ "_") →
    (∀ (j : Nat) c, as[j]? = some c → ∃ u, X[i + j]? = some u ∧ Rep w A c u) → (∀ (j : Nat) c, bs[j]? = some c → ∃ u, Y[i + j]? = some u ∧ Rep w A c u) →
    (Op.eqFields (d + 1) X Y fs).run P w = .ok r w ∧ ∀ f ∈ fs, ∃ u, P.underlying f.type = some u ∧ ((∃ k, u = .int k) ∨ u = .bool ∨ u = .string)
  | [], i, [], [], r, h, _, _, _ => by simp only [eqvF] at h; cases h; exact ⟨rfl, by simp⟩
  | [], i, _ :: _, _, r, h, _, _, _ => by simp [eqvF] at h
  | [], i, [], _ :: _, r, h, _, _, _ => by simp [eqvF] at h
  | f :: fs, i, [], _, r, h, _, _, _ => by simp [eqvF] at h
  | f :: fs, i, _ :: _, [], r, h, _, _, _ => by simp [eqvF] at h
  | ⟨nm, ft, off, e1, e2, e3, e4⟩ :: fs, i, x :: as, y :: bs, r, h, hn, hx, hy => by
    simp only [eqvF] at h
    split at h
    · rename_i und sz by' z ho ht
      have ho := Nat.eq_of_beq_eq_true ho
      subst ho
      have ht := hS _ _ ht
      split at h
      · rename_i r' hr
        obtain ⟨g1, g2⟩ := eqvF_sound hS d fs (off + 1) as bs r' hr (fun f hf => hn f (List.mem_cons_of_mem _ hf))
          (fun j c hc => by have := hx (j + 1) c (by simpa using hc); rwa [show off + (j + 1) = off + 1 + j by omega] at this)
          (fun j c hc => by have := hy (j + 1) c (by simpa using hc); rwa [show off + (j + 1) = off + 1 + j by omega] at this)
        obtain ⟨u, hu, hru⟩ := hx 0 x rfl
        obtain ⟨v, hv, hrv⟩ := hy 0 y rfl
        rw [Nat.add_zero] at hu hv
        have hnm : nm ≠ "_" := hn _ List.mem_cons_self
        have key : ∀ q : Bool, isAggT und = false → (Op.equalIn (d + 1) ft u v).run P w = .ok q w → ((∃ k, und = .int k) ∨ und = .bool ∨ und = .string) → r = (q && r') →
            (Op.eqFields (d + 1) X Y (⟨nm, ft, off, e1, e2, e3, e4⟩ :: fs)).run P w = .ok r w ∧ ∀ f ∈ ((⟨nm, ft, off, e1, e2, e3, e4⟩ : Field) :: fs), ∃ u, P.underlying f.type = some u ∧ ((∃ k, u = .int k) ∨ u = .bool ∨ u = .string) := by
          intro q hag he hk hrq
          refine ⟨?_, fun f hf => ?_⟩
          · have p1 := run_part_one (w := w) ht hag hu
            have p2 := run_part_one (w := w) ht hag hv
            simp only [Op.eqFields, ne_eq, hnm, not_false_eq_true, if_true, Sem.run_bind, p1, p2, he, Result.andThen_ok]
            cases q
            · simp [hrq]
            · simp [hrq, g1]
          · cases hf with
            | head => exact ⟨und, ht.und, hk⟩
            | tail _ hf => exact g2 f hf
        split at h
        · rename_i k0 k a k' b
          split at h
          · rename_i hk
            simp only [decide_eq_true_eq] at hk
            subst hk
            cases h
            cases hru; cases hrv
            exact key _ rfl (run_equalIn_int w d ft _ _ _ _ ht.und) (.inl ⟨_, rfl⟩) rfl
          · cases h
        · rename_i a b
          cases h
          cases hru; cases hrv
          exact key _ rfl (run_equalIn_bool' w d ft _ _ ht.und) (.inr (.inl rfl)) rfl
        · rename_i a b
          cases h
          cases hru; cases hrv
          exact key _ rfl (run_equalIn_string w d ft _ _ ht.und) (.inr (.inr rfl)) rfl
        · cases h
      · cases h
    · cases h

theorem guard_flat {t : TypeId} {u : TypeDesc} (n : Nat) (ht : P.underlying t = some u) (h : (∃ k, u = .int k) ∨ u = .bool ∨ u = .string) : P.eqGuardType (n + 1) t = false := by
  rw [Program.eqGuardType, ht]
  rcases h with ⟨k, rfl⟩ | rfl | rfl <;> rfl
theorem guard_struct {t : TypeId} {fs : Array Field} (n : Nat) (ht : P.underlying t = some (.struct fs)) (h : ∀ f ∈ fs.toList, P.eqGuardType n f.type = false) : P.eqGuardType (n + 1) t = false := by
  rw [Program.eqGuardType, ht]
  simp only [← Array.any_toList, List.any_eq_false]
  intro f hf
  simp [h f hf]
theorem eqGuardType_struct {t : TypeId} {fs : Array Field} (ht : P.underlying t = some (.struct fs)) (h : ∀ f ∈ fs.toList, ∀ n, P.eqGuardType (n + 2) f.type = false) :
    P.eqGuardType P.depth t = false := by
  have : ∃ n, P.depth = n + 3 := ⟨2 * (P.types.size + Made.depth) - 1, rfl⟩
  obtain ⟨n, hn⟩ := this
  rw [hn]
  exact guard_struct (n + 2) ht fun f hf => h f hf n
theorem eqvG_sound (hS : TysOk P S) {X Y : Array Value} (d : Nat) : ∀ (fs : List Field) (i : Nat) (as bs : List D) (r : Bool), eqvG S fs i as bs = some r → (∀ f ∈ fs, f.name ≠ "_") →
    (∀ (j : Nat) c, as[j]? = some c → ∃ u, X[i + j]? = some u ∧ Rep w A c u) → (∀ (j : Nat) c, bs[j]? = some c → ∃ u, Y[i + j]? = some u ∧ Rep w A c u) →
    (Op.eqFields (d + 2) X Y fs).run P w = .ok r w ∧ ∀ f ∈ fs, ∀ n, P.eqGuardType (n + 2) f.type = false
  | [], i, as, bs, r, h, _, _, _ => by
    simp only [eqvG] at h
    split at h
    · cases h; exact ⟨rfl, by simp⟩
    · cases h
  | ⟨nm, ft, off, e1, e2, e3, e4⟩ :: fs, i, as, bs, r, h, hn, hx, hy => by
    simp only [eqvG] at h
    have hnm : nm ≠ "_" := hn _ List.mem_cons_self
    split at h
    · rename_i und sz by' z ho ht
      have ho := Nat.eq_of_beq_eq_true ho
      subst ho
      replace ht := hS _ _ ht
      split at h
      · rename_i gs
        split at h
        · rename_i q r' hq hr
          cases h
          obtain ⟨g1, g2⟩ := eqvG_sound hS d fs (off + sz) _ _ r' hr (fun f hf => hn f (List.mem_cons_of_mem _ hf))
            (fun j c hc => by rw [List.getElem?_drop] at hc; have := hx _ c hc; rwa [← Nat.add_assoc] at this)
            (fun j c hc => by rw [List.getElem?_drop] at hc; have := hy _ c hc; rwa [← Nat.add_assoc] at this)
          have hun : P.underlying ft = some (.struct gs) := ht.und
          obtain ⟨hh1, hh2⟩ := ht.held gs rfl
          have ex : ∀ (Z : Array Value) (cs : List D), (∀ (j : Nat) c, cs[j]? = some c → ∃ u, Z[off + j]? = some u ∧ Rep w A c u) → ∀ (j : Nat) c, (cs.take sz)[j]? = some c → ∃ u, (Z.extract off (off + sz))[0 + j]? = some u ∧ Rep w A c u := by
            intro Z cs hZ j c hc
            have hj : j < sz := by
              have := (List.getElem?_eq_some_iff.1 hc).1
              rw [List.length_take] at this; omega
            rw [List.getElem?_take_of_lt hj] at hc
            obtain ⟨u, hu, hr⟩ := hZ j c hc
            refine ⟨u, ?_, hr⟩
            have hlt := (Array.getElem?_eq_some_iff.1 hu).1
            rw [Array.getElem?_extract, if_pos (by omega), Nat.zero_add]; exact hu
          obtain ⟨k1, k2⟩ := eqvF_sound hS (w := w) (A := A) (X := X.extract off (off + sz)) (Y := Y.extract off (off + sz)) d gs.toList 0 _ _ q hq (fun f hf => (hh2 f hf).1) (ex X as hx) (ex Y bs hy)
          have p1 := run_part_agg (w := w) ht rfl (cs := X) (off := off)
          have p2 := run_part_agg (w := w) ht rfl (cs := Y) (off := off)
          have hf : P.fieldsOf ft = gs := by simp [Program.fieldsOf, hun]
          have p3 : (Op.equalIn (d + 2) ft (.agg (X.extract off (off + sz))) (.agg (Y.extract off (off + sz)))).run P w = .ok q w := by
            rw [run_equalIn_struct w (d + 1) ft _ _ (by rw [hf]; exact hun) hh1, hf]
            exact k1
          refine ⟨?_, fun f hf => ?_⟩
          · simp only at p1 p2
            simp only [Op.eqFields, ne_eq, hnm, not_false_eq_true, if_true, Sem.run_bind, p1, p2, p3, Result.andThen_ok]
            cases q
            · simp
            · simp [g1]
          · cases hf with
            | head => exact fun n => guard_struct (n + 1) hun fun g hg => (k2 g hg).elim fun u hh => guard_flat n hh.1 hh.2
            | tail _ hf => exact g2 f hf
        · cases h
      · rename_i hns
        split at h
        · rename_i x as y bs
          split at h
          · rename_i r' hr
            obtain ⟨g1, g2⟩ := eqvG_sound hS d fs (off + 1) as bs r' hr (fun f hf => hn f (List.mem_cons_of_mem _ hf))
              (fun j c hc => by have := hx (j + 1) c (by simpa using hc); rwa [show off + (j + 1) = off + 1 + j by omega] at this)
              (fun j c hc => by have := hy (j + 1) c (by simpa using hc); rwa [show off + (j + 1) = off + 1 + j by omega] at this)
            obtain ⟨u, hu, hru⟩ := hx 0 x rfl
            obtain ⟨v, hv, hrv⟩ := hy 0 y rfl
            rw [Nat.add_zero] at hu hv
            have key : ∀ q : Bool, isAggT und = false → (Op.equalIn (d + 2) ft u v).run P w = .ok q w → ((∃ k, und = .int k) ∨ und = .bool ∨ und = .string) → r = (q && r') →
                (Op.eqFields (d + 2) X Y (⟨nm, ft, off, e1, e2, e3, e4⟩ :: fs)).run P w = .ok r w ∧ ∀ f ∈ ((⟨nm, ft, off, e1, e2, e3, e4⟩ : Field) :: fs), ∀ n, P.eqGuardType (n + 2) f.type = false := by
              intro q hag he hk hrq
              refine ⟨?_, fun f hf => ?_⟩
              · have p1 := run_part_one (w := w) ht hag hu
                have p2 := run_part_one (w := w) ht hag hv
                simp only [Op.eqFields, ne_eq, hnm, not_false_eq_true, if_true, Sem.run_bind, p1, p2, he, Result.andThen_ok]
                cases q
                · simp [hrq]
                · simp [hrq, g1]
              · cases hf with
                | head => exact fun n => guard_flat (n + 1) ht.und hk
                | tail _ hf => exact g2 f hf
            split at h
            · rename_i k0 k a k' b
              split at h
              · rename_i hk
                simp only [decide_eq_true_eq] at hk
                subst hk
                cases h
                cases hru; cases hrv
                exact key _ rfl (run_equalIn_int w (d + 1) ft _ _ _ _ ht.und) (.inl ⟨_, rfl⟩) rfl
              · cases h
            · rename_i a b
              cases h
              cases hru; cases hrv
              exact key _ rfl (run_equalIn_bool' w (d + 1) ft _ _ ht.und) (.inr (.inl rfl)) rfl
            · rename_i a b
              cases h
              cases hru; cases hrv
              exact key _ rfl (run_equalIn_string w (d + 1) ft _ _ ht.und) (.inr (.inr rfl)) rfl
            · cases h
          · cases h
        · cases h
    · cases h

theorem eqvI_sound {e : TypeId} {te : TI} (ht : TyOk P e te) (h1 : P.cellsOf e = 1) {k0 : IntKind} (hu : te.und = .int k0) {X Y : Array Value} (d : Nat) : ∀ (as bs : List D) (i : Nat) (r : Bool), eqvI as bs = some r →
    (∀ (j : Nat) c, as[j]? = some c → ∃ u, X[i + j]? = some u ∧ Rep w A c u) → (∀ (j : Nat) c, bs[j]? = some c → ∃ u, Y[i + j]? = some u ∧ Rep w A c u) →
    (Op.eqItems (d + 1) e (P.cellsOf e) X Y (List.range' i as.length)).run P w = .ok r w
  | [], [], i, r, h, _, _ => by simp only [eqvI] at h; cases h; simp [Op.eqItems]
  | [], _ :: _, i, r, h, _, _ => by simp [eqvI] at h
  | _ :: _, [], i, r, h, _, _ => by simp [eqvI] at h
  | x :: as, y :: bs, i, r, h, hx, hy => by
    simp only [eqvI] at h
    split at h
    · rename_i r' hr
      have ih := eqvI_sound ht h1 hu d as bs (i + 1) r' hr
        (fun j c hc => by have := hx (j + 1) c (by simpa using hc); rwa [show i + (j + 1) = i + 1 + j by omega] at this)
        (fun j c hc => by have := hy (j + 1) c (by simpa using hc); rwa [show i + (j + 1) = i + 1 + j by omega] at this)
      obtain ⟨u, hxu, hru⟩ := hx 0 x rfl
      obtain ⟨v, hyv, hrv⟩ := hy 0 y rfl
      rw [Nat.add_zero] at hxu hyv
      have hag : isAggT te.und = false := by rw [hu]; rfl
      have p1 := run_part_one (w := w) ht hag hxu
      have p2 := run_part_one (w := w) ht hag hyv
      split at h
      · rename_i k a k' b
        split at h
        · rename_i hk
          simp only [decide_eq_true_eq] at hk
          subst hk
          cases h
          cases hru; cases hrv
          have p3 := run_equalIn_int (P := P) w d e k k0 a b (by rw [ht.und, hu])
          simp only [List.length_cons, List.range'_succ, Op.eqItems, Sem.run_bind, h1, Nat.mul_one, p1, p2, p3, Result.andThen_ok]
          rw [h1] at ih
          cases hq : a == b
          · simp
          · simp [ih]
        · cases h
      · cases h
    · cases h
theorem eqGuardType_array {t e : TypeId} {n : Nat} {k : IntKind} (ht : P.underlying t = some (.array n e)) (he : P.underlying e = some (.int k)) : P.eqGuardType P.depth t = false := by
  have : ∃ n, P.depth = n + 2 := ⟨2 * (P.types.size + Made.depth), rfl⟩
  obtain ⟨n, hn⟩ := this
  rw [hn, Program.eqGuardType, ht]
  simp only
  rw [Program.eqGuardType, he]

theorem effEq_sound (hS : TysOk P S) {t : TypeId} {neg : Bool} {x y : AV} {vx vy : Value} {v : AV} {ups} {px py : Operand} (ho : Out P oc (effEq S t neg x y) v ups) (hx : RV L w A x vx) (hy : RV L w A y vy) :
    ups = [] ∧ ∃ u, (do eqGuard (if neg then .neq else .eql) t px py vx vy; binOp (if neg then .neq else .eql) t vx vy : Sem Value).run P w = .ok u w ∧ RV L w A v u := by
  unfold effEq at ho
  split at ho
  · rename_i p q
    have hx := rv_bool hx
    have hy := rv_bool hy
    subst hx; subst hy
    have hb : isBoolT S t = true → P.underlying t = some .bool := by
      unfold isBoolT
      split
      · rename_i ti ht
        split
        · rename_i hu; intro _; rw [(hS _ _ ht).und, hu]
        · intro h; cases h
      · intro h; cases h
    split at ho
    · rename_i h
      cases ho
      refine ⟨rfl, .bool (p == q), ?_, .d (.bool _)⟩
      simp only [Sem.run_bind, Bool.false_eq_true, if_false, run_eqGuard_bool, Result.andThen_ok, binOp, Op.equal, Op.maxDepth, run_equalIn_bool' w 9999 t p q (hb h), Sem.run_pure]
    · rename_i h
      cases ho
      refine ⟨rfl, .bool (!(p == q)), ?_, .d (.bool _)⟩
      simp only [Sem.run_bind, if_true, run_eqGuard_bool, Result.andThen_ok, binOp, Op.equal, Op.maxDepth, run_equalIn_bool' w 9999 t p q (hb h), Sem.run_pure]
    · cases ho
  · rename_i p q
    obtain ⟨X, rfl, hl, h1, hr⟩ := rv_agg hx
    obtain ⟨Y, rfl, hl', h1', hr'⟩ := rv_agg hy
    have key : ∀ r, eqvA S t p q = some r → (Op.equalIn 10000 t (.agg X) (.agg Y)).run P w = .ok r w ∧ P.eqGuardType P.depth t = false := by
      intro r he
      unfold eqvA at he
      split at he
      · rename_i ti ht
        have ht := hS _ _ ht
        split at he
        · rename_i fs hu
          have hun : P.underlying t = some (.struct fs) := by rw [ht.und, hu]
          obtain ⟨hh1, hh2⟩ := ht.held fs hu
          obtain ⟨g1, g2⟩ := eqvG_sound hS (w := w) (A := A) (X := X) (Y := Y) 9997 fs.toList 0 p q r he (fun f hf => (hh2 f hf).1)
            (fun j c hc => by
              obtain ⟨u, hu⟩ := arr_get (C := X) (j := j) (by rw [← hl]; exact lt_of_get hc)
              exact ⟨u, by rw [Nat.zero_add]; exact hu, hr j c u hc hu⟩)
            (fun j c hc => by
              obtain ⟨u, hu⟩ := arr_get (C := Y) (j := j) (by rw [← hl']; exact lt_of_get hc)
              exact ⟨u, by rw [Nat.zero_add]; exact hu, hr' j c u hc hu⟩)
          have hf : P.fieldsOf t = fs := by simp [Program.fieldsOf, hun]
          refine ⟨?_, eqGuardType_struct hun g2⟩
          rw [run_equalIn_struct w 9999 t X Y (by rw [hf]; exact hun) hh1, hf]
          exact g1
        · rename_i n e hu
          have hun : P.underlying t = some (.array n e) := by rw [ht.und, hu]
          split at he
          · rename_i te hte
            have hte := hS _ _ hte
            split at he
            · rename_i k0 hue hsz hln
              have hsz := Nat.eq_of_beq_eq_true hsz
              have hln := Nat.eq_of_beq_eq_true hln
              obtain ⟨i, z, hi, hi1, _⟩ := hte.info
              have hce : P.cellsOf e = 1 := by rw [Program.cellsOf, hi]; simp [hi1, hsz]
              have g1 := eqvI_sound hte hce hue (w := w) (A := A) (X := X) (Y := Y) 9998 p q 0 r he
                (fun j c hc => by
                  obtain ⟨u, hu⟩ := arr_get (C := X) (j := j) (by rw [← hl]; exact lt_of_get hc)
                  exact ⟨u, by rw [Nat.zero_add]; exact hu, hr j c u hc hu⟩)
                (fun j c hc => by
                  obtain ⟨u, hu⟩ := arr_get (C := Y) (j := j) (by rw [← hl']; exact lt_of_get hc)
                  exact ⟨u, by rw [Nat.zero_add]; exact hu, hr' j c u hc hu⟩)
              refine ⟨?_, eqGuardType_array hun (by rw [hte.und, hue])⟩
              rw [run_equalIn_array w 9999 X Y hun hi, List.range_eq_range', ← hln]
              exact g1
            · cases he
          · cases he
        · cases he
      · cases he
    have hg : ∀ op : BinOp, P.eqGuardType P.depth t = false → (eqGuard op t px py (.agg X) (.agg Y)).run P w = .ok () w := by
      intro op he
      unfold eqGuard
      cases op <;> first | rfl | simp [he]
    split at ho
    · rename_i r he
      cases ho
      obtain ⟨k1, k2⟩ := key _ he
      refine ⟨rfl, .bool r, ?_, .d (.bool _)⟩
      simp only [Sem.run_bind, Bool.false_eq_true, if_false, hg _ k2, Result.andThen_ok, binOp, Op.equal, Op.maxDepth, k1, Sem.run_pure]
    · rename_i r he
      cases ho
      obtain ⟨k1, k2⟩ := key _ he
      refine ⟨rfl, .bool (!r), ?_, .d (.bool _)⟩
      simp only [Sem.run_bind, if_true, hg _ k2, Result.andThen_ok, binOp, Op.equal, Op.maxDepth, k1, Sem.run_pure]
    · cases ho
  · cases ho

theorem run_equalIn_nil (w : World) (d : Nat) (t e : TypeId) (p : Option Addr) (n c : Nat) (h : P.underlying t = some (.slice e)) :
    (Op.equalIn (d + 1) t (.slice p n c) (.slice none 0 0)).run P w = .ok p.isNone w := by
  cases p <;> simp [Op.equalIn, run_underlying h]
theorem rep_slice {sz : Nat} {es : List D} {u : Value} (h : RV L w A (.d (.sl sz es)) u) : ∃ p n c, u = .slice p n c ∧ (es ≠ [] → p.isNone = false) := by
  cases h with
  | d h =>
    cases h with
    | slnil => exact ⟨_, _, _, rfl, fun h => absurd rfl h⟩
    | sl => exact ⟨_, _, _, rfl, fun _ => rfl⟩
theorem s_binOp (hS : TysOk P S) {dst type pos after guard} (op : BinOp) (t t' : TypeId) (x y : Operand) : Sound P S ⟨dst, .binOp op t x y t', type, pos, after, guard⟩ := by
  refine ⟨?_⟩
  intro w0 A0 N L A T B a w v ups T1 B1 T2 K Q oc dr hoc hI ho hu hp hK
  have hx := ev_rv hI x
  have hy := ev_rv hI y
  simp only [eff] at ho
  refine outV hI ho hu hp hK ?_
  have eqs : ∀ (neg : Bool), Out P oc (effEq S t neg (evA T x) (evA T y)) v ups → op = (if neg then .neq else .eql) → ups = [] ∧ ∃ u, (execOp a.eval ⟨dst, .binOp op t x y t', type, pos, after, guard⟩).run P w = .ok (.value u) w ∧ RV L w A v u := by
    intro neg h e
    obtain ⟨h1, u, h2, h3⟩ := effEq_sound hS (px := x) (py := y) h hx hy
    refine ⟨h1, u, ?_, h3⟩
    rw [e]
    simp only [execOp, Sem.run_bind] at h2 ⊢
    rw [h2]; rfl
  have bin : ∀ op', Out P oc (effBin op' (evA T x) (evA T y)) v ups → op = op' → ups = [] ∧ ∃ u, (execOp a.eval ⟨dst, .binOp op t x y t', type, pos, after, guard⟩).run P w = .ok (.value u) w ∧ RV L w A v u := by
    rintro op' ho rfl
    obtain ⟨h1, u, h2, h3⟩ := effBin_sound (t := t) ho hx hy
    refine ⟨h1, u, ?_, h3⟩
    have hg : (eqGuard op t x y (a.eval x) (a.eval y)).run P w = .ok () w := by
      have hs : (∃ k n k' m, a.eval x = .int k n ∧ a.eval y = .int k' m) ∨ ∃ p q, a.eval x = .string p ∧ a.eval y = .string q := by
        unfold effBin at ho
        split at ho
        · rename_i h4 h5; rw [h4] at hx; rw [h5] at hy; exact .inl ⟨_, _, _, _, rv_int hx, rv_int hy⟩
        · rename_i h4 h5; rw [h4] at hx; rw [h5] at hy; exact .inr ⟨_, _, rv_str hx, rv_str hy⟩
        · cases ho
      rcases hs with ⟨k, n, k', m, e1, e2⟩ | ⟨p, q, e1, e2⟩
      · rw [e1, e2]; exact run_eqGuard_int
      · rw [e1, e2]; exact run_eqGuard_str
    simp only [execOp, Sem.run_bind, hg, h2, Result.andThen_ok]
    rfl
  have eq2 : ∀ neg, Out P oc (effEq2 S t neg (evA T x) (evA T y)) v ups → op = (if neg then .neq else .eql) → ups = [] ∧ ∃ u, (execOp a.eval ⟨dst, .binOp op t x y t', type, pos, after, guard⟩).run P w = .ok (.value u) w ∧ RV L w A v u := by
    intro neg h e
    unfold effEq2 at h
    split at h
    · exact eqs neg h e
    · exact eqs neg h e
    · cases neg
      · exact bin _ h e
      · exact bin _ h e
  have eq3 : ∀ neg, Out P oc (effEq3 S t neg (evA T x) (evA T y)) v ups → op = (if neg then .neq else .eql) → ups = [] ∧ ∃ u, (execOp a.eval ⟨dst, .binOp op t x y t', type, pos, after, guard⟩).run P w = .ok (.value u) w ∧ RV L w A v u := by
    intro neg h e
    unfold effEq3 at h
    split at h
    · rename_i sz hny
      rw [hny] at hy
      have hyv := rv_nil hy
      unfold effNil at h
      split at h
      · rename_i ti hti
        split at h
        · rename_i el hu1
          have htu : P.underlying t = some (.slice el) := by rw [(hS _ _ hti).und, hu1]
          have run : ∀ p n c, a.eval x = .slice p n c → (execOp a.eval ⟨dst, .binOp op t x y t', type, pos, after, guard⟩).run P w = .ok (.value (.bool (if neg then !p.isNone else p.isNone))) w := by
            intro p n c hv
            subst e
            cases neg <;> simp [execOp, hv, hyv, eqGuard, binOp, Op.equal, Op.maxDepth, Go.Vm.run_equalIn_nil w 9999 t el p n c htu]
          have nl : ∀ p n c, a.eval x = .slice p n c → nilV a ⟨dst, .binOp op t x y t', type, pos, after, guard⟩ = p.isNone := by
            intro p n c hv
            simp only [nilV, hv]
          split at h
          · rename_i sz' es hxe
            rw [hxe] at hx
            obtain ⟨p, n, c, hv, hne⟩ := rep_slice hx
            cases h with
            | nilY hw hn he ho =>
              cases ho
              rw [hoc] at hw; cases hw
              rw [nl p n c hv] at hn
              replace hn : p.isNone = true := hn
              refine ⟨rfl, _, run p n c hv, ?_⟩
              rw [hn]
              cases neg <;> exact .d (.bool _)
            | nilN hw hn ho =>
              cases ho
              rw [hoc] at hw; cases hw
              rw [nl p n c hv] at hn
              have hn : p.isNone = false := by
                rcases hn with hn | hn
                · exact (show p.isNone = false from hn)
                · exact hne hn
              refine ⟨rfl, _, run p n c hv, ?_⟩
              rw [hn]
              cases neg <;> exact .d (.bool _)
          · rename_i sz' hxe
            rw [hxe] at hx
            cases h
            refine ⟨rfl, _, run _ _ _ (rv_nil hx), ?_⟩
            cases neg <;> exact .d (.bool _)
          · cases h
        · cases h
      · cases h
    · exact eq2 neg h e
  cases op <;> first
    | exact eq3 false ho rfl
    | exact eq3 true ho rfl
    | exact bin _ ho rfl
end
end Go.Vm
end

section
/- Each operation, tenth part: literals and make. -/
namespace Go.Vm
open Go.RowKit (Below)
section
variable {P : Program} {S : Tys}
variable {w0 : Ent} {A0 : Sta} {N : Nat} {L : Lay} {A : Sta} {T : Nat → AV} {B : Nat → Option Bx} {a : Act} {w : World}
theorem foldl_set (off : Nat) : ∀ (vs : List Value) (k : Nat) (C : Array Value), off + k + vs.length ≤ C.size →
    (vs.zipIdx k).foldl (fun cs p => cs.setIfInBounds (off + p.2) p.1) C = (C.toList.take (off + k) ++ vs ++ C.toList.drop (off + k + vs.length)).toArray
  | [], k, C, _ => by simp
  | v :: vs, k, C, h => by
    simp only [List.length_cons] at h
    rw [List.zipIdx_cons, List.foldl_cons, foldl_set off vs (k + 1) _ (by simp; omega)]
    congr 1
    have e := list_seg_step C.toList (off + k) v vs (by simp; omega)
    simpa [Array.toList_setIfInBounds, Nat.add_assoc] using e
theorem fill_one {place : Nat → Option (Nat × Nat)} {C : Array Value} {i off : Nat} {v : Value} {rest : List (Nat × Value)} (hp : place i = some (off, v.cells.size)) (hfit : off + v.cells.size ≤ C.size) :
    Instr.fill place C ((i, v) :: rest) = Instr.fill place (C.toList.take off ++ v.cells.toList ++ C.toList.drop (off + v.cells.toList.length)).toArray rest := by
  have h := foldl_set off v.cells.toList 0 C (by simpa using hfit)
  simp only [Nat.add_zero] at h
  simp only [Instr.fill, hp]
  rw [if_neg (by simp; omega)]
  congr 1
  rw [← Array.foldl_toList, Array.toList_zipIdx, ← h]

/-- Cells that stand for abstract ones. -/
def CR (L : Lay) (w : World) (A : Sta) (cs : List AV) (C : Array Value) : Prop := cs.length = C.size ∧ ∀ (j : Nat) c v, cs[j]? = some c → C[j]? = some v → RV L w A c v
theorem CR.splice {cs l : List AV} {C : Array Value} {u : Value} {off : Nat} {cs' : List AV} (h : CR L w A cs C) (hset : setL cs off l = some cs') (hl : l.length = u.cells.size)
    (hr : ∀ (j : Nat) c v, l[j]? = some c → u.cells[j]? = some v → RV L w A c v) :
    off + u.cells.size ≤ C.size ∧ CR L w A cs' (C.toList.take off ++ u.cells.toList ++ C.toList.drop (off + u.cells.toList.length)).toArray := by
  obtain ⟨e1, e2⟩ := setL_spec _ _ _ _ hset
  have hfit : off + u.cells.toList.length ≤ C.toList.length := by have := h.1; simp; omega
  refine ⟨by simpa using hfit, ?_, fun j c v hc hv => ?_⟩
  · rw [e1, spl_len e2]
    simp only [List.size_toArray]
    rw [spl_len hfit]
    simpa using h.1
  · rw [e1, spl_get' e2] at hc
    simp only [List.getElem?_toArray] at hv
    rw [spl_get' hfit] at hv
    have e3 : u.cells.toList.length = l.length := by simp [hl]
    rw [e3] at hv
    split at hc
    · rename_i hin
      rw [if_pos hin] at hv
      exact hr _ c v hc (by simpa using hv)
    · rename_i hin
      rw [if_neg hin] at hv
      exact h.2 j c v hc (by simpa using hv)

theorem part_cells (hI : Inv w0 A0 N L A T B a w) {t : TypeId} {x : Operand} {l : List AV} (h : partC (resz S t (evA T x)) = some l) :
    l.length = (a.eval x).cells.size ∧ ∀ (j : Nat) c v, l[j]? = some c → (a.eval x).cells[j]? = some v → RV L w A c v := by
  have hr := resz_rv (S := S) (t := t) (ev_rv hI x)
  obtain ⟨rfl, hs⟩ := partC_cells h
  obtain ⟨k1, _, k3⟩ := hr.cells hs (partC_notTup h hr)
  exact ⟨k1, k3⟩

theorem fillL_sound (hI : Inv w0 A0 N L A T B a w) {t : TypeId} {place : Nat → Option (Nat × Nat)} (hplace : ∀ i off ft n, fieldOf S t i = some (off, ft, n) → place i = some (off, n)) :
    ∀ (ps : List (Nat × Operand)) (cs cs' : List AV) (C : Array Value), fillL S t (evA T) cs ps = some cs' → CR L w A cs C →
    ∃ C', Instr.fill place C (ps.map fun p => (p.1, a.eval p.2)) = some C' ∧ CR L w A cs' C'
  | [], cs, cs', C, h, hc => by simp only [fillL] at h; cases h; exact ⟨C, rfl, hc⟩
  | (i, x) :: ps, cs, cs', C, h, hc => by
    simp only [fillL] at h
    split at h
    · rename_i off ft n hf
      split at h
      · rename_i l hl
        split at h
        · rename_i hn
          have hn := Nat.eq_of_beq_eq_true hn
          split at h
          · rename_i cs1 hset
            obtain ⟨k1, k2⟩ := part_cells hI hl
            obtain ⟨k3, k4⟩ := hc.splice hset k1 k2
            obtain ⟨C', g1, g2⟩ := fillL_sound hI hplace ps cs1 cs' _ h k4
            refine ⟨C', ?_, g2⟩
            rw [List.map_cons, fill_one (by rw [hplace _ _ _ _ hf, ← hn, k1]) k3]
            exact g1
          · cases h
        · cases h
      · cases h
    · cases h
theorem fillArr_sound (hI : Inv w0 A0 N L A T B a w) {e : TypeId} : ∀ (ps : List (Nat × Operand)) (cs cs' : List AV) (C : Array Value), fillArr S e (evA T) cs ps = some cs' → CR L w A cs C →
    ∃ C', Instr.fill (fun i => some (i * 1, 1)) C (ps.map fun p => (p.1, a.eval p.2)) = some C' ∧ CR L w A cs' C'
  | [], cs, cs', C, h, hc => by simp only [fillArr] at h; cases h; exact ⟨C, rfl, hc⟩
  | (i, x) :: ps, cs, cs', C, h, hc => by
    simp only [fillArr] at h
    split at h
    · rename_i v hl
      split at h
      · rename_i cs1 hset
        obtain ⟨k1, k2⟩ := part_cells hI hl
        obtain ⟨k3, k4⟩ := hc.splice hset k1 k2
        obtain ⟨C', g1, g2⟩ := fillArr_sound hI ps cs1 cs' _ h k4
        refine ⟨C', ?_, g2⟩
        rw [List.map_cons, fill_one (off := i) (by rw [← k1]; simp) k3]
        exact g1
      · cases h
    · cases h

theorem places_some : ∀ (fs : List Field), (∀ f ∈ fs, (P.info? f.type).isSome = true) → ∃ places, fs.mapM (fun f => (P.info? f.type).map fun i => (f.offset, i.size)) = some places ∧
    ∀ (j : Nat) f i, fs[j]? = some f → P.info? f.type = some i → places[j]? = some (f.offset, i.size)
  | [], _ => ⟨[], rfl, by simp⟩
  | f :: fs, h => by
    obtain ⟨places, h1, h2⟩ := places_some fs fun f hf => h f (List.mem_cons_of_mem _ hf)
    obtain ⟨i, hi⟩ := Option.isSome_iff_exists.1 (h f List.mem_cons_self)
    refine ⟨(f.offset, i.size) :: places, by simp [List.mapM_cons, hi, h1], fun j f' i' hf hi' => ?_⟩
    cases j with
    | zero => simp only [List.getElem?_cons_zero, Option.some.injEq] at hf ⊢; subst hf; rw [hi] at hi'; cases hi'; rfl
    | succ j => simp only [List.getElem?_cons_succ] at hf ⊢; exact h2 j f' i' hf hi'

theorem zero_CR {t : TypeId} {ti : TI} (ht : TyOk P t ti) : ∃ i z, P.info? t = some i ∧ i.zero = some z ∧ i.size = ti.size ∧ CR L w A ti.zero z.cells ∧ z.cells.size = ti.size := by
  obtain ⟨i, z, hi, hi1, _, hz, hm⟩ := ht.info
  obtain ⟨h1, h2⟩ := zmatchL_rv (L := L) (w := w) (A := A) hm
  refine ⟨i, z, hi, hz, hi1, ⟨by simpa using h1, fun j c v hc hv => h2 j c v hc (by simpa using hv)⟩, ?_⟩
  rw [← ht.zlen]
  simpa using h1.symm

theorem s_build (hS : TysOk P S) {dst type pos after guard} (t : TypeId) (ps : Array (Nat × Operand)) : Sound P S ⟨dst, .build t ps, type, pos, after, guard⟩ := by
  refine ⟨?_⟩
  intro w0 A0 N L A T B a w v ups T1 B1 T2 K Q oc dr hoc hI ho hu hp hK
  have hps : (ps.map fun (i, x) => (i, a.eval x)).toList = ps.toList.map fun p => (p.1, a.eval p.2) := by simp
  simp only [eff] at ho
  refine outV hI ho hu hp hK ?_
  split at ho
  · rename_i ti ht
    have ht := hS _ _ ht
    obtain ⟨it, z, hi, hz, _, hcr, _⟩ := zero_CR (L := L) (w := w) (A := A) ht
    have fin' : ∀ cs C, CR L w A cs C → oneL cs = true → P.built t (ps.toList.map fun p => (p.1, a.eval p.2)) = some C → v = mkA cs → ups = [] →
        ups = [] ∧ ∃ u, (execOp a.eval ⟨dst, .build t ps, type, pos, after, guard⟩).run P w = .ok (.value u) w ∧ RV L w A v u := by
      rintro cs C hc h1 hb rfl rfl
      refine ⟨rfl, .agg C, ?_, mkA_rv hc.1 h1 hc.2⟩
      have := run_build (P := P) w t (ps.map fun (i, x) => (i, a.eval x)) C (by rw [hps]; exact hb)
      simp only [execOp, Sem.run_bind]
      rw [this]; rfl
    split at ho
    · rename_i fs hund
      split at ho
      · rename_i cs hfill
        split at ho
        · rename_i h1
          cases ho
          obtain ⟨places, p1, p2⟩ := places_some (P := P) fs.toList fun f hf => ((ht.held fs hund).2 f hf).2
          obtain ⟨C', g1, g2⟩ := fillL_sound hI (place := (places.toArray[·]?)) (fun i off ft n hf => by
            obtain ⟨fs', fd, k1, k2, k3, k4, k5, k6, tf, k7, k8⟩ := fieldOf_spec hS hf
            rw [ht.und, hund] at k1
            cases k1
            obtain ⟨ii, zz, q1, q2, _⟩ := (hS _ _ k7).info
            have := p2 i fd ii (by simpa using k2) (by rw [k4]; exact q1)
            simp only [List.getElem?_toArray]
            rw [this, k3, q2, k8]) ps.toList _ _ _ hfill hcr
          refine fin' cs C' g2 h1 ?_ rfl rfl
          simp only [Program.built, hi, ht.und, hund, hz, p1]
          exact g1
        · cases ho
      · cases ho
    · rename_i n e hund
      split at ho
      · rename_i te hte
        have hte := hS _ _ hte
        split at ho
        · rename_i cs hs1 hfill
          have hs1 := Nat.eq_of_beq_eq_true hs1
          split at ho
          · rename_i h1
            cases ho
            obtain ⟨ie, ze, q1, q2, _⟩ := hte.info
            obtain ⟨C', g1, g2⟩ := fillArr_sound hI ps.toList _ _ _ hfill hcr
            refine fin' cs C' g2 h1 ?_ rfl rfl
            simp only [Program.built, hi, ht.und, hund, hz, q1, q2, hs1]
            exact g1
          · cases ho
        · cases ho
      · cases ho
    · cases ho
  · cases ho
end
end Go.Vm
end
