/- Each operation, eighth part: make, closures, calls, equality. -/
import Derived.Test.YtgfaonnajdoeoaaVmK
namespace Go.Vm
open Go.RowKit (Below)
section
variable {P : Program} {S : Tys}
variable {w0 : World} {A0 : Sta} {N : Nat} {L : Lay} {A : Sta} {T : Nat → AV} {B : Nat → Option Bx} {a : Act} {w : World}

/-- The boxes that are frozen, one after another. -/
theorem frz_step {x : AV} {u : Value} {k : D → List (Nat × Option Bx) → Res} {v : AV} {ups} (hx : RV L w A x u) (ho : Out P (frzK B x k) v ups) :
    ∃ d us, Out P (k d us) v ups ∧ (us = [] ∧ Rep w A d u ∨ ∃ b et sz es fz, us = [(b, some (.row et sz es true))] ∧ B b = some (.row et sz es fz) ∧ d = .sl sz es ∧ u = L.hd b) := by
  unfold frzK at ho
  split at ho
  · exact ⟨_, _, ho, .inl ⟨rfl, rv_d hx⟩⟩
  · exact ⟨_, _, ho, .inl ⟨rfl, by rw [rv_nil hx]; exact .slnil _ _ _⟩⟩
  · split at ho
    · rename_i hbx
      exact ⟨_, _, ho, .inr ⟨_, _, _, _, _, rfl, hbx, rfl, rv_own hx⟩⟩
    · cases ho
  · cases ho

/-- The same box, frozen or not. -/
def Bx.withFz (fz : Bool) : Bx → Bx
  | .row et sz es _ => .row et sz es fz
  | .var cs _ => .var cs fz
/-- A list of freezings: what is left of 'ups' after them. -/
inductive Frz (B : Nat → Option Bx) : List (Nat × Option Bx) → Prop
  | nil : Frz B []
  | row {b et sz es fz r} (h : B b = some (.row et sz es fz)) (hr : Frz B r) : Frz B ((b, some (.row et sz es true)) :: r)
  | var {b cs fz r} (h : B b = some (.var cs fz)) (hr : Frz B r) : Frz B ((b, some (.var cs true)) :: r)
theorem Frz.app {us vs : List (Nat × Option Bx)} (h : Frz B us) (h' : Frz B vs) : Frz B (us ++ vs) := by
  induction h with
  | nil => exact h'
  | row h hr ih => exact .row h ih
  | var h hr ih => exact .var h ih

/-- What a frozen reading needs: each row's elements as data, each variable's cells stable. -/
def FrzOk (L : Lay) (w : World) (us : List (Nat × Option Bx)) (A' : Sta) : Prop :=
  ∀ b x, (b, some x) ∈ us → match x with
    | .row _ sz es _ => Rep w A' (.sl sz es) (L.hd b)
    | .var cs _ => ∀ o, o < cs.length → A' (L.ι b) o

theorem frz_ups {dst : Option Nat} {us rest : List (Nat × Option Bx)} (hf : Frz B us) : ∀ {B0 : Nat → Option Bx} {A : Sta} {T : Nat → AV} {T1 : Nat → AV} {B1 : Nat → Option Bx},
    (∀ b x, B b = some x → ∃ fz, B0 b = some (x.withFz fz)) →
    Inv w0 A0 N L A T B0 a w → UpsR dst (us ++ rest) T B0 T1 B1 →
    ∃ A' B2, (∀ g o, A g o → A' g o) ∧ Inv w0 A0 N L A' T B2 a w ∧ UpsR dst rest T B2 T1 B1 ∧ FrzOk L w us A' ∧
      (∀ b x, B b = some x → ∃ fz, B2 b = some (x.withFz fz)) ∧ (∀ b, B0 b = none → B2 b = none) := by
  induction hf with
  | nil =>
    intro B0 A T T1 B1 hB hI hu
    exact ⟨A, B0, fun _ _ h => h, hI, hu, (fun b x h => (by cases h)), hB, fun _ h => h⟩
  | @row b et sz es fz r h hr ih =>
    intro B0 A T T1 B1 hB hI hu
    obtain ⟨fz0, hb0⟩ := hB b _ h
    simp only [Bx.withFz] at hb0
    rw [List.cons_append] at hu
    have hu' : UpsR dst (r ++ rest) T (upd B0 b (some (.row et sz es true))) T1 B1 := by
      cases hu with
      | set _ _ _ h => exact h
      | new _ hn => rw [hb0] at hn; cases hn
    obtain ⟨A1, hA1, hI1, hrep⟩ := hI.freezeRow hb0
    obtain ⟨A', B2, k1, k2, k3, k4, k5, k6⟩ := ih (B0 := upd B0 b (some (.row et sz es true))) (fun b' x hx => by
      by_cases e : b' = b
      · subst e
        rw [h] at hx; cases hx
        exact ⟨true, by rw [upd_same]; rfl⟩
      · rw [upd_ne _ _ e]; exact hB b' x hx) hI1 hu'
    refine ⟨A', B2, fun g o hg => k1 _ _ (hA1 _ _ hg), k2, k3, ?_, k5, fun b' hb' => k6 b' ?_⟩
    · intro b' x hx
      simp only [List.mem_cons, Prod.mk.injEq, Option.some.injEq] at hx
      rcases hx with ⟨rfl, rfl⟩ | hx
      · exact hrep.frame k1 fun _ _ _ => rfl
      · exact k4 b' x hx
    · by_cases e : b' = b
      · subst e; rw [hb0] at hb'; cases hb'
      · rw [upd_ne _ _ e]; exact hb'
  | @var b cs fz r h hr ih =>
    intro B0 A T T1 B1 hB hI hu
    obtain ⟨fz0, hb0⟩ := hB b _ h
    simp only [Bx.withFz] at hb0
    rw [List.cons_append] at hu
    have hu' : UpsR dst (r ++ rest) T (upd B0 b (some (.var cs true))) T1 B1 := by
      cases hu with
      | set _ _ _ h => exact h
      | new _ hn => rw [hb0] at hn; cases hn
    have hI1 := hI.freezeVar hb0
    obtain ⟨A', B2, k1, k2, k3, k4, k5, k6⟩ := ih (B0 := upd B0 b (some (.var cs true))) (fun b' x hx => by
      by_cases e : b' = b
      · subst e
        rw [h] at hx; cases hx
        exact ⟨true, by rw [upd_same]; rfl⟩
      · rw [upd_ne _ _ e]; exact hB b' x hx) hI1 hu'
    refine ⟨A', B2, fun g o hg => k1 _ _ (.inl hg), k2, k3, ?_, k5, fun b' hb' => k6 b' ?_⟩
    · intro b' x hx
      simp only [List.mem_cons, Prod.mk.injEq, Option.some.injEq] at hx
      rcases hx with ⟨rfl, rfl⟩ | hx
      · exact fun o ho => k1 _ _ (.inr ⟨rfl, ho⟩)
      · exact k4 b' x hx
    · by_cases e : b' = b
      · subst e; rw [hb0] at hb'; cases hb'
      · rw [upd_ne _ _ e]; exact hb'

/-- One value frozen: it reads as data in every world state in which its boxes are frozen. -/
theorem frzK_out {x : AV} {u : Value} {k : D → List (Nat × Option Bx) → Res} {v : AV} {ups} (hx : RV L w A x u) (ho : Out P (frzK B x k) v ups) :
    ∃ d us, Out P (k d us) v ups ∧ Frz B us ∧ ∀ A', (∀ g o, A g o → A' g o) → FrzOk L w us A' → Rep w A' d u := by
  obtain ⟨d, us, h1, h2⟩ := frz_step hx ho
  refine ⟨d, us, h1, ?_⟩
  rcases h2 with ⟨rfl, h2⟩ | ⟨b, et, sz, es, fz, rfl, hb, rfl, rfl⟩
  · exact ⟨.nil, fun A' hA _ => h2.frame hA fun _ _ _ => rfl⟩
  · exact ⟨.row hb .nil, fun A' hA hok => hok b _ List.mem_cons_self⟩
theorem FrzOk.left {us vs : List (Nat × Option Bx)} {A' : Sta} (h : FrzOk L w (us ++ vs) A') : FrzOk L w us A' := fun b x hx => h b x (List.mem_append_left _ hx)
theorem FrzOk.right {us vs : List (Nat × Option Bx)} {A' : Sta} (h : FrzOk L w (us ++ vs) A') : FrzOk L w vs A' := fun b x hx => h b x (List.mem_append_right _ hx)

theorem frzLK_out (hI : Inv w0 A0 N L A T B a w) : ∀ {xs : List AV} {us : List Value} {k : List D → List (Nat × Option Bx) → Res} {v : AV} {ups}, xs.length = us.length →
    (∀ (j : Nat) c u, xs[j]? = some c → us[j]? = some u → RV L w A c u) → Out P (frzLK B xs k) v ups →
    ∃ ds fs, Out P (k ds fs) v ups ∧ Frz B fs ∧ ds.length = us.length ∧ ∀ A', (∀ g o, A g o → A' g o) → FrzOk L w fs A' → ∀ (j : Nat) c u, ds[j]? = some c → us[j]? = some u → Rep w A' c u
  | [], [], k, v, ups, _, _, ho => ⟨[], [], ho, .nil, rfl, fun _ _ _ j c u h => by simp at h⟩
  | [], _ :: _, _, _, _, h, _, _ => by cases h
  | _ :: _, [], _, _, _, h, _, _ => by cases h
  | x :: xs, u :: us, k, v, ups, hl, hr, ho => by
    simp only [frzLK] at ho
    obtain ⟨d, f1, ho, h1, h2⟩ := frzK_out (hr 0 x u rfl rfl) ho
    obtain ⟨ds, fs, ho, g1, g2, g3⟩ := frzLK_out hI (xs := xs) (us := us) (by simpa using hl) (fun j c u h h' => hr (j + 1) c u (by simpa using h) (by simpa using h')) ho
    refine ⟨d :: ds, f1 ++ fs, ho, h1.app g1, by simp [g2], fun A' hA hok j c u hc hu => ?_⟩
    cases j with
    | zero => simp only [List.getElem?_cons_zero, Option.some.injEq] at hc hu; subst hc; subst hu; exact h2 A' hA hok.left
    | succ j => simp only [List.getElem?_cons_succ] at hc hu; exact g3 A' hA hok.right j c u hc hu

/-- A value that may be a struct. 'one' of its cells comes from the value. -/
theorem frzAK_out (hI : Inv w0 A0 N L A T B a w) {x : AV} {u : Value} {k : D → List (Nat × Option Bx) → Res} {v : AV} {ups} (hx : RV L w A x u) (ho : Out P (frzAK B x k) v ups) :
    ∃ d us, Out P (k d us) v ups ∧ Frz B us ∧ ∀ A', (∀ g o, A g o → A' g o) → FrzOk L w us A' → Rep w A' d u := by
  unfold frzAK at ho
  split at ho
  · rename_i cs
    cases hx with
    | @agg _ vs hl h1 hr =>
      obtain ⟨ds, fs, ho, g1, g2, g3⟩ := frzLK_out hI (us := vs.toList) (by simpa using hl) (fun j c u h h' => hr j c u h (by simpa using h')) ho
      refine ⟨_, _, ho, g1, fun A' hA hok => .agg (by simpa using g2) (fun c hc => ?_) fun j c u hc hu => g3 A' hA hok j c u hc (by simpa using hu)⟩
      obtain ⟨j, hj⟩ := List.getElem?_of_mem hc
      have hlt : j < vs.size := by have := lt_of_get hj; rw [g2] at this; simpa using this
      obtain ⟨u, hu⟩ := arr_get hlt
      have hcj : cs[j]? = some (cs[j]'(by omega)) := List.getElem?_eq_getElem (by omega)
      have hone := (hr j _ u hcj hu).oneV (h1 _ (List.mem_of_getElem? hcj))
      have hrep := g3 A' hA hok j c u hj (by simpa using hu)
      cases hrep <;> first | rfl | cases hone
  · exact frzK_out hx ho

theorem frzALK_out (hI : Inv w0 A0 N L A T B a w) : ∀ {xs : List AV} {us : List Value} {k : List D → List (Nat × Option Bx) → Res} {v : AV} {ups}, xs.length = us.length →
    (∀ (j : Nat) c u, xs[j]? = some c → us[j]? = some u → RV L w A c u) → Out P (frzALK B xs k) v ups →
    ∃ ds fs, Out P (k ds fs) v ups ∧ Frz B fs ∧ ds.length = us.length ∧ ∀ A', (∀ g o, A g o → A' g o) → FrzOk L w fs A' → ∀ (j : Nat) c u, ds[j]? = some c → us[j]? = some u → Rep w A' c u
  | [], [], k, v, ups, _, _, ho => ⟨[], [], ho, .nil, rfl, fun _ _ _ j c u h => by simp at h⟩
  | [], _ :: _, _, _, _, h, _, _ => by cases h
  | _ :: _, [], _, _, _, h, _, _ => by cases h
  | x :: xs, u :: us, k, v, ups, hl, hr, ho => by
    simp only [frzALK] at ho
    obtain ⟨d, f1, ho, h1, h2⟩ := frzAK_out hI (hr 0 x u rfl rfl) ho
    obtain ⟨ds, fs, ho, g1, g2, g3⟩ := frzALK_out hI (xs := xs) (us := us) (by simpa using hl) (fun j c u h h' => hr (j + 1) c u (by simpa using h) (by simpa using h')) ho
    refine ⟨d :: ds, f1 ++ fs, ho, h1.app g1, by simp [g2], fun A' hA hok j c u hc hu => ?_⟩
    cases j with
    | zero => simp only [List.getElem?_cons_zero, Option.some.injEq] at hc hu; subst hc; subst hu; exact h2 A' hA hok.left
    | succ j => simp only [List.getElem?_cons_succ] at hc hu; exact g3 A' hA hok.right j c u hc hu

theorem idRows : ∀ b x, B b = some x → ∃ fz, B b = some (x.withFz fz) := by
  intro b x hx
  cases x with
  | row et sz es fz => exact ⟨fz, hx⟩
  | var cs fz => exact ⟨fz, hx⟩

theorem rv_fn {f : FuncId} {caps : List D} {u : Value} (h : RV L w A (.d (.fn f caps)) u) : ∃ vs, u = .func (.func f) #[] vs ∧ caps.length = vs.size ∧ ∀ (j : Nat) c v, caps[j]? = some c → vs[j]? = some v → Rep w A c v := by
  cases rv_d h with
  | fn hl hr => exact ⟨_, rfl, hl, hr⟩

theorem zipResz_len : ∀ (xs : List AV) (ts : List TypeId), xs.length = ts.length → (zipResz S xs ts).length = xs.length
  | [], [], _ => rfl
  | [], _ :: _, h => by cases h
  | _ :: _, [], h => by cases h
  | x :: xs, t :: ts, h => by simp [zipResz, zipResz_len xs ts (by simpa using h)]
theorem zipResz_get : ∀ (xs : List AV) (ts : List TypeId) (j : Nat) c, (zipResz S xs ts)[j]? = some c → ∃ t x, xs[j]? = some x ∧ c = resz S t x
  | [], _, j, c, h => by simp [zipResz] at h
  | _ :: _, [], j, c, h => by simp [zipResz] at h
  | x :: xs, t :: ts, 0, c, h => by simp [zipResz] at h; exact ⟨t, x, rfl, h.symm⟩
  | x :: xs, t :: ts, j + 1, c, h => by simp only [zipResz, List.getElem?_cons_succ] at h ⊢; exact zipResz_get xs ts j c h

theorem s_callF {dst type pos after guard} (f : Operand) (args : Array Operand) (argTypes : Array TypeId) : Sound P S ⟨dst, .call { callee := .value f, args := args, argTypes := argTypes }, type, pos, after, guard⟩ := by
  refine ⟨?_⟩
  intro w0 A0 N L A T B a w v ups T1 B1 T2 K Q hI ho hu hp hK
  have hf := ev_rv hI f
  simp only [eff] at ho
  split at ho
  · rename_i fn caps hfn
    rw [hfn] at hf
    obtain ⟨vs, hv, hl, hr⟩ := rv_fn hf
    split at ho
    · rename_i hlen
      have hlen : args.size = argTypes.size := Nat.eq_of_beq_eq_true hlen
      have hz := zipResz_len (S := S) (args.toList.map (evA T)) argTypes.toList (by simpa using hlen)
      obtain ⟨ds, fs, ho, g1, g2, g3⟩ := frzALK_out hI (us := args.toList.map a.eval) (by rw [hz]; simp) (fun j c u hc hu => by
        obtain ⟨t, x, hx, rfl⟩ := zipResz_get _ _ j c hc
        simp only [List.getElem?_map, Option.map_eq_some_iff] at hx hu
        obtain ⟨p, hp1, rfl⟩ := hx
        obtain ⟨q, hq1, rfl⟩ := hu
        rw [hp1] at hq1; cases hq1
        exact resz_rv (ev_rv hI p)) ho
      cases ho with
      | @call f args' r ups hev =>
        obtain ⟨A', B2, k1, k2, k3, k4, k5, k6⟩ := frz_ups (rest := []) g1 idRows hI (by simpa using hu)
        cases k3
        obtain ⟨⟨fd, hfd, hnm, hbody⟩, hcalls⟩ := hev
        have hc := hcalls w A' (args.map a.eval ++ vs) (fun g o hg => k2.Aok g o hg) (by
          rw [List.length_append, g2, hl]; simp) (fun j c u hc hu => by
          rw [List.getElem?_append] at hc
          rw [Array.getElem?_append] at hu
          have e1 : ds.length = (args.map a.eval).size := by rw [g2]; simp
          rw [e1] at hc
          split at hc
          · rename_i hlt
            rw [if_pos hlt] at hu
            exact g3 A' k1 k4 j c u hc (by rw [← Array.getElem?_toList] at hu; simpa using hu)
          · rename_i hlt
            rw [if_neg hlt] at hu
            exact (hr _ c u hc hu).frame k1 fun _ _ _ => rfl)
        have hrun : (execOp a.eval ⟨dst, .call { callee := .value f, args := args, argTypes := argTypes }, type, pos, after, guard⟩).run P w = .ok (.enter fn (args.map a.eval ++ vs)) w := by
          have n1 : ¬ fd.name = "runtime.NumGoroutine" := by simpa using hnm
          have n2 : ¬ fd.body = none := by intro h; rw [h] at hbody; cases hbody
          simp [execOp, resolve, Deferred.ofValue, hv, invoke, callFunc, hfd, n1, n2]
        unfold Oper.wp
        rw [hrun]
        refine hc.mono fun e w' h => ?_
        obtain ⟨v, A'', rfl, hrep, hbel, m1, m2, m3⟩ := h
        have hI' := k2.world hbel m1 m2 m3
        exact hK _ _ _ _ (fin hI' (.d hrep) hp)
    · cases ho
  · cases ho

theorem capsK_out (hI : Inv w0 A0 N L A T B a w) : ∀ {xs : List AV} {us : List Value} {k : List D → List (Nat × Option Bx) → Res} {v : AV} {ups}, xs.length = us.length →
    (∀ (j : Nat) c u, xs[j]? = some c → us[j]? = some u → RV L w A c u) → Out P (eff.capsK B xs k) v ups →
    ∃ ds fs, Out P (k ds fs) v ups ∧ Frz B fs ∧ ds.length = us.length ∧ ∀ A', (∀ g o, A g o → A' g o) → FrzOk L w fs A' → ∀ (j : Nat) c u, ds[j]? = some c → us[j]? = some u → Rep w A' c u
  | [], [], k, v, ups, _, _, ho => ⟨[], [], ho, .nil, rfl, fun _ _ _ j c u h => by simp at h⟩
  | [], _ :: _, _, _, _, h, _, _ => by cases h
  | _ :: _, [], _, _, _, h, _, _ => by cases h
  | x :: xs, u :: us, k, v, ups, hl, hr, ho => by
    have hx := hr 0 x u rfl rfl
    have rest := fun {k : List D → List (Nat × Option Bx) → Res} ho => capsK_out hI (xs := xs) (us := us) (k := k) (v := v) (ups := ups) (by simpa using hl) (fun j c u h h' => hr (j + 1) c u (by simpa using h) (by simpa using h')) ho
    simp only [eff.capsK] at ho
    split at ho
    · rename_i b
      have hx := rv_ptr hx
      split at ho
      · rename_i cs fz hbx
        split at ho
        · rename_i dsl hds
          have hds := allD_spec hds
          subst hds
          split at ho
          · rename_i hone
            obtain ⟨ds, fs, ho, g1, g2, g3⟩ := rest ho
            refine ⟨.ref dsl 0 :: ds, (b, some (.var (dsl.map .d) true)) :: fs, ho, .var hbx g1, by simp [g2], fun A' hA hok j c u hc hu => ?_⟩
            cases j with
            | zero =>
              simp only [List.getElem?_cons_zero, Option.some.injEq] at hc hu
              subst hc; subst hu
              have hst := hok b _ List.mem_cons_self
              simp only [List.length_map] at hst
              obtain ⟨C, et, c1, c2, c3, _⟩ := hI.bxs b _ hbx
              have hcell : ∀ (j : Nat) c, dsl[j]? = some c → ∃ u, C[j]? = some u ∧ Rep w A c u := by
                intro j c hc
                have hlt := lt_of_get hc
                obtain ⟨u, hu⟩ := arr_get (C := C) (j := j) (by rw [c2]; simpa using hlt)
                exact ⟨u, hu, rv_d (c3 j (.d c) u (by simp [hc]) hu)⟩
              rw [hx]
              refine .ref (L.ι b) 0 (fun j => (C[j]?).getD undef) ?_ (fun j c hc => ?_) fun j c hc => ?_
              · exact fun c hc => (List.all_eq_true.1 hone) c hc
              · obtain ⟨u, h1, _⟩ := hcell j c hc
                rw [Nat.zero_add]
                exact ⟨hst j (lt_of_get hc), by rw [cell_of_row w (L.ι b) j C et (0, 0) c1, h1]; rfl⟩
              · obtain ⟨u, h1, h2⟩ := hcell j c hc
                simp only [h1, Option.getD_some]
                exact h2.frame hA fun _ _ _ => rfl
            | succ j => simp only [List.getElem?_cons_succ] at hc hu; exact g3 A' hA (fun b x hx => hok b x (List.mem_cons_of_mem _ hx)) j c u hc hu
          · cases ho
        · cases ho
      · cases ho
    · rename_i dsl off
      obtain ⟨ds, fs, ho, g1, g2, g3⟩ := rest ho
      refine ⟨.ref dsl off :: ds, fs, ho, g1, by simp [g2], fun A' hA hok j c u hc hu => ?_⟩
      cases j with
      | zero =>
        simp only [List.getElem?_cons_zero, Option.some.injEq] at hc hu
        subst hc; subst hu
        exact (rv_d hx).frame hA fun _ _ _ => rfl
      | succ j => simp only [List.getElem?_cons_succ] at hc hu; exact g3 A' hA hok j c u hc hu
    · cases ho

theorem s_makeFunc {dst type pos after guard} (fn : Fn) (first caps : Array Operand) : Sound P S ⟨dst, .makeFunc fn first caps, type, pos, after, guard⟩ := by
  refine ⟨?_⟩
  intro w0 A0 N L A T B a w v ups T1 B1 T2 K Q hI ho hu hp hK
  simp only [eff] at ho
  split at ho
  · rename_i f hfirst
    obtain ⟨ds, fs, ho, g1, g2, g3⟩ := capsK_out hI (us := caps.toList.map a.eval) (by simp) (fun j c u hc hu => by
        simp only [List.getElem?_map, Option.map_eq_some_iff] at hc hu
        obtain ⟨p, hp1, rfl⟩ := hc
        obtain ⟨q, hq1, rfl⟩ := hu
        rw [hp1] at hq1; cases hq1
        exact ev_rv hI p) ho
    cases ho
    obtain ⟨A', B2, k1, k2, k3, k4, k5, k6⟩ := frz_ups (rest := []) g1 idRows hI (by simpa using hu)
    cases k3
    have h0 : first = #[] := by
      obtain ⟨l⟩ := first
      simp only at hfirst
      rw [hfirst]
    subst h0
    refine zarr (u := .func (.func f) #[] (caps.map a.eval)) (w' := w) (by simp [execOp, Instr.makeFunc]) (hK _ _ _ _ (fin k2 (.d (.fn (by rw [g2]; simp) fun j c u hc hu => ?_)) hp))
    exact g3 A' k1 k4 j c u hc (by rw [← Array.getElem?_toList] at hu; simpa using hu)
  · cases ho
end
end Go.Vm
