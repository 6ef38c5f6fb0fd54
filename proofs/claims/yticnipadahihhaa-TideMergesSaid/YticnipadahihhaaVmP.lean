/- Every operation is sound; the evaluator's lists against the functions that the laws speak of; a region in the order of its text. -/
import Derived.Test.YticnipadahihhaaVmOc
namespace Go.Vm
open Go.RowKit (Below)
section
variable {P : Program} {S : Tys}

theorem op_sound (hS : TysOk P S) (o : Oper) : Sound P S o := by
  obtain ⟨dst, op, type, pos, after, guard⟩ := o
  have bad : (∀ dr ρ B, eff S dr ⟨dst, op, type, pos, after, guard⟩ ρ B = .bad) → Sound P S ⟨dst, op, type, pos, after, guard⟩ := by
    intro h
    refine ⟨?_⟩
    intro w0 A0 N L A T B a w v ups T1 B1 T2 K Q oc dr hoc hI ho hu hp hK
    rw [h] at ho
    cases ho
  cases op with
  | move x => exact s_move x
  | nilCheck x => exact s_nilCheck x
  | assign x => exact s_assign x
  | pick c x y => exact s_pick c x y
  | alloc e => exact s_alloc hS e
  | box e x => exact s_box e x
  | build t ps => exact s_build hS t ps
  | buildSlice t n ps => exact s_buildSlice hS t n ps
  | load t x => exact s_load hS t x
  | store t x y => exact s_store hS t x y
  | binOp op t x y t' => exact s_binOp hS op t t' x y
  | unOp op t x => exact s_unOp op t x
  | convert s t x => exact s_convert hS s t x
  | makeFunc fn first caps => exact s_makeFunc fn first caps
  | makeSlice t n c => exact s_makeSlice hS t n c
  | makeMap t r => cases r with
    | none => exact s_makeMap t
    | some r => exact bad fun _ _ _ => rfl
  | lookup t x i ok => exact s_lookup hS t x i ok
  | mapUpdate t m i x => exact s_mapUpdate hS t m i x
  | insert t m i x => exact s_insert hS t m i x
  | range t x => exact s_range hS t x
  | next x str => exact s_next x str
  | entry x => exact s_entry x
  | slice t x lo hi mx => exact s_slice hS t x lo hi mx
  | fieldAddr t x f => exact s_fieldAddr hS t x f
  | field t x f => exact s_field hS t x f
  | indexAddr t x i => exact s_indexAddr hS t x i
  | index t x i => exact s_index hS t x i
  | extract x i => exact s_extract x i
  | call c =>
    obtain ⟨callee, args, argTypes⟩ := c
    cases callee with
    | value f => exact s_callF f args argTypes
    | invoke r m => exact bad fun _ _ _ => rfl
    | builtin b =>
      cases b with
      | len => exact s_len hS args argTypes
      | min => exact s_min args argTypes
      | max => exact s_max args argTypes
      | append => exact s_append hS (appZ_ok hS) args argTypes
      | cap => exact s_cap hS args argTypes
      | clear => exact s_clear hS args argTypes
      | copy => exact s_copy hS args argTypes
      | _ => exact bad fun _ _ _ => rfl
  | _ => exact bad fun _ _ _ => rfl

/-! Lists as functions. -/
def stF {α : Type} : List (Nat × α) → Nat → α → List (Nat × α)
  | [], j, v => [(j, v)]
  | (i, u) :: r, j, v => match Nat.beq i j with
    | true => (i, v) :: r
    | false => (i, u) :: stF r j v
theorem stK_eq {α β : Type} : ∀ (l : List (Nat × α)) (j : Nat) (v : α) (k : List (Nat × α) → β), stK l j v k = k (stF l j v)
  | [], j, v, k => rfl
  | (i, u) :: r, j, v, k => by
    simp only [stK, stF]
    cases Nat.beq i j with
    | true => rfl
    | false => exact stK_eq r j v _
theorem beq_false_ne {i j : Nat} (h : Nat.beq i j = false) : i ≠ j := by
  rintro rfl
  rw [Nat.beq_refl] at h
  cases h
theorem beq_ne_false {i j : Nat} (h : i ≠ j) : Nat.beq i j = false := by
  cases e : Nat.beq i j with
  | false => rfl
  | true => exact absurd (Nat.eq_of_beq_eq_true e) h
theorem lk_cons {α : Type} (k : Nat) (v : α) (r : List (Nat × α)) (j : Nat) : lk ((k, v) :: r) j = if j = k then some v else lk r j := by
  by_cases e : j = k
  · subst e; simp [lk, Nat.beq_refl]
  · rw [if_neg e]; simp only [lk, beq_ne_false (fun e' => e e'.symm)]
theorem lk_stF {α : Type} : ∀ (l : List (Nat × α)) (j : Nat) (v : α), lk (stF l j v) = upd (lk l) j (some v)
  | [], j, v => by
    funext i
    by_cases e : i = j
    · subst e; rw [upd_same]; simp [stF, lk_cons]
    · rw [upd_ne _ _ e]; simp [stF, lk_cons, e]
  | (k, u) :: r, j, v => by
    funext i
    simp only [stF]
    cases e : Nat.beq k j with
    | true =>
      have e := Nat.eq_of_beq_eq_true e
      subst e
      simp only [lk_cons, upd]
      split <;> rfl
    | false =>
      have e := beq_false_ne e
      simp only [lk_cons, lk_stF r j v, upd]
      by_cases h1 : i = k
      · subst h1; rw [if_pos rfl, if_neg e, if_pos rfl]
      · rw [if_neg h1, if_neg h1]
def rmF {α : Type} : List (Nat × α) → Nat → List (Nat × α)
  | [], _ => []
  | (i, u) :: r, j => match Nat.beq i j with
    | true => rmF r j
    | false => (i, u) :: rmF r j
theorem rmK_eq {α β : Type} : ∀ (l : List (Nat × α)) (j : Nat) (k : List (Nat × α) → β), rmK l j k = k (rmF l j)
  | [], j, k => rfl
  | (i, u) :: r, j, k => by
    simp only [rmK, rmF]
    cases Nat.beq i j with
    | true => exact rmK_eq r j _
    | false => exact rmK_eq r j _
theorem lk_rmF {α : Type} : ∀ (l : List (Nat × α)) (j i : Nat), lk (rmF l j) i = if i = j then none else lk l i
  | [], j, i => by simp [rmF, lk]
  | (k, u) :: r, j, i => by
    simp only [rmF]
    cases e : Nat.beq k j with
    | true =>
      have e := Nat.eq_of_beq_eq_true e
      subst e
      simp only [lk_rmF r k i, lk_cons]
      split <;> simp_all
    | false =>
      have e := beq_false_ne e
      simp only [lk_cons, lk_rmF r j i]
      by_cases h1 : i = k
      · subst h1; simp [e]
      · simp [h1]
def pgTF (b : Nat) : List (Nat × AV) → List (Nat × AV)
  | [] => []
  | (i, u) :: r => match u.men b with
    | true => (i, .junk) :: pgTF b r
    | false => (i, u) :: pgTF b r
theorem pgTK_eq {β : Type} (b : Nat) : ∀ (l : List (Nat × AV)) (k : List (Nat × AV) → β), pgTK b l k = k (pgTF b l)
  | [], k => rfl
  | (i, u) :: r, k => by
    simp only [pgTK, pgTF]
    cases u.men b with
    | true => exact pgTK_eq b r _
    | false => exact pgTK_eq b r _
theorem get_pgTF (b : Nat) : ∀ (l : List (Nat × AV)) (t : Nat), (match lk (pgTF b l) t with | some v => v | none => AV.junk) = if (match lk l t with | some v => v | none => AV.junk).men b = true then .junk else (match lk l t with | some v => v | none => AV.junk)
  | [], t => rfl
  | (i, u) :: r, t => by
    have ih := get_pgTF b r t
    simp only [pgTF]
    cases e : u.men b with
    | true =>
      by_cases h1 : t = i
      · subst h1; simp [lk_cons, e]
      · simp only [lk_cons, if_neg h1]; exact ih
    | false =>
      by_cases h1 : t = i
      · subst h1; simp [lk_cons, e]
      · simp only [lk_cons, if_neg h1]; exact ih
def pgBF (b : Nat) : List (Nat × Bx) → List (Nat × Bx)
  | [] => []
  | (i, x) :: r => (i, pgX b x) :: pgBF b r
theorem pg1_id {b : Nat} : ∀ {cs : List AV}, AV.menL b cs = false → cs.map (pg1 b) = cs
  | [], _ => rfl
  | c :: cs, h => by
    simp only [AV.menL] at h
    cases e : c.men1 b with
    | true => rw [e] at h; cases h
    | false =>
      rw [e] at h
      simp only [List.map_cons, pg1, e, pg1_id h]
theorem pgBK_eq {β : Type} (b : Nat) : ∀ (l : List (Nat × Bx)) (k : List (Nat × Bx) → β), pgBK b l k = k (pgBF b l)
  | [], k => rfl
  | (i, x) :: r, k => by
    cases x with
    | var cs fz =>
      simp only [pgBK, pgBF, pgX]
      cases e : AV.menL b cs with
      | true => exact pgBK_eq b r _
      | false => simp only [pgBK_eq b r, pg1_id e]
    | row et sz es fz => simp only [pgBK, pgBF, pgX, pgBK_eq b r]
    | arr es fz => simp only [pgBK, pgBF, pgX, pgBK_eq b r]
    | mat et ie v rows => simp only [pgBK, pgBF, pgX, pgBK_eq b r]
    | map kt et kd es => simp only [pgBK, pgBF, pgX, pgBK_eq b r]
    | iter m n seen => simp only [pgBK, pgBF, pgX, pgBK_eq b r]
    | gone => simp only [pgBK, pgBF, pgX, pgBK_eq b r]
theorem lk_pgBF (b : Nat) : ∀ (l : List (Nat × Bx)) (i : Nat), lk (pgBF b l) i = (lk l i).map (pgX b)
  | [], i => rfl
  | (k, x) :: r, i => by
    simp only [pgBF, lk_cons, lk_pgBF b r i]
    split <;> rfl

theorem okIn_men {bx : List (Nat × Bx)} {b : Nat} {v : AV} (h : v.okIn bx = true) (hm : v.men b = true) : lk bx b ≠ none := okIn_lk h hm
theorem bx_okIn_men {bx : List (Nat × Bx)} {b : Nat} {x : Bx} (h : x.okIn bx = true) (hm : x.men b = true) : lk bx b ≠ none := bx_okIn_lk h hm

theorem upsK_out {dst : Option Nat} : ∀ {ups : List (Nat × Option Bx)} {σ : St} {K : St → Prop}, upsK dst ups σ K → ∃ σ1, UpsR dst ups σ.get (lk σ.bx) σ1.get (lk σ1.bx) ∧ K σ1
  | [], σ, K, h => ⟨σ, .nil _ _, h⟩
  | (b, none) :: r, ⟨T, bx⟩, K, h => by
    simp only [upsK, rmK_eq, pgBK_eq, pgTK_eq] at h
    obtain ⟨σ1, h1, h2⟩ := upsK_out h
    refine ⟨σ1, .kill ?_, h2⟩
    have e1 : killT (St.get ⟨T, bx⟩) b = St.get ⟨pgTF b T, pgBF b (rmF bx b)⟩ := by
      funext t
      exact (get_pgTF b T t).symm
    have e2 : killB (lk bx) b = lk (pgBF b (rmF bx b)) := by
      funext i
      rw [lk_pgBF, lk_rmF]
      unfold killB
      split <;> rfl
    rw [e1, e2]
    exact h1
  | (b, some x) :: r, ⟨T, bx⟩, K, h => by
    have step : ∀ {h : upsK dst r ⟨T, stF bx b x⟩ K}, ∃ σ1, UpsR dst r (St.get ⟨T, bx⟩) (upd (lk bx) b (some x)) σ1.get (lk σ1.bx) ∧ K σ1 := by
      intro h
      obtain ⟨σ1, h1, h2⟩ := upsK_out h
      refine ⟨σ1, ?_, h2⟩
      rw [← lk_stF]
      exact h1
    simp only [upsK, stK_eq] at h
    split at h
    · rename_i hok
      have men : ∀ b', Bx.men b' x = true → lk bx b' ≠ none := fun b' hm => bx_okIn_men hok hm
      split at h
      · rename_i h1 h2 h3
        obtain ⟨σ1, k1, k2⟩ := step (h := h)
        exact ⟨σ1, .new h1 h2 h3 men k1, k2⟩
      · rename_i h1 h3
        obtain ⟨σ1, k1, k2⟩ := step (h := h)
        exact ⟨σ1, .set h1 (by rw [h3]; simp) men k1, k2⟩
      · cases h
    · cases h

theorem get_stF (T : List (Nat × AV)) (bx : List (Nat × Bx)) (t : Nat) (v : AV) : St.get ⟨stF T t v, bx⟩ = upd (St.get ⟨T, bx⟩) t v := by
  funext i
  simp only [St.get, lk_stF, upd]
  by_cases e : i = t
  · rw [if_pos e, if_pos e]
  · rw [if_neg e, if_neg e]
theorem putK_out {N : Nat} {dst : Option Nat} {σ : St} {v : AV} {K : St → Prop} (h : putK N dst σ v K) : ∃ σ', PutR N dst v σ.get (lk σ.bx) σ'.get ∧ σ'.bx = σ.bx ∧ K σ' := by
  obtain ⟨T, bx⟩ := σ
  cases dst with
  | none => exact ⟨⟨T, bx⟩, rfl, rfl, h⟩
  | some t =>
    simp only [putK, forceK_eq, stK_eq] at h
    split at h
    · rename_i h1 h2
      refine ⟨⟨stF T t v, bx⟩, ⟨Nat.le_of_ble_eq_true h1, fun b hb => okIn_men h2 hb, get_stF T bx t v⟩, rfl, h⟩
    · cases h

theorem act_out {wd : Orc} {N : Nat} {dst : Option Nat} {σ : St} {K : St → Prop} : ∀ {r : Res}, act P N dst σ K r →
    ∃ v ups σ', Out P (some wd) r v ups ∧ (∃ T1, UpsR dst ups σ.get (lk σ.bx) T1 (lk σ'.bx) ∧ PutR N dst v T1 (lk σ'.bx) σ'.get) ∧ K σ'
  | .ok v ups, h => by
    obtain ⟨σ1, h1, h2⟩ := upsK_out h
    obtain ⟨σ', h3, h4, h5⟩ := putK_out h2
    exact ⟨v, ups, σ', .ok _ _, ⟨σ1.get, by rw [h4]; exact h1, by rw [h4]; exact h3⟩, h5⟩
  | .call f args ups, h => by
    cases h with
    | mk r hev h =>
      obtain ⟨σ1, h1, h2⟩ := upsK_out h
      obtain ⟨σ', h3, h4, h5⟩ := putK_out h2
      exact ⟨.d r, ups, σ', .call hev, ⟨σ1.get, by rw [h4]; exact h1, by rw [h4]; exact h3⟩, h5⟩
  | .callX t f xs hs, h => by
    cases h with
    | mk v us hev hok h =>
      obtain ⟨σ1, h1, h2⟩ := upsK_out h
      obtain ⟨σ', h3, h4, h5⟩ := putK_out h2
      exact ⟨v, _, σ', .callX hev hok, ⟨σ1.get, by rw [h4]; exact h1, by rw [h4]; exact h3⟩, h5⟩
  | .need p r, h => by
    obtain ⟨v, ups, σ', h1, h2, h3⟩ := act_out h.rest
    exact ⟨v, ups, σ', .need h.side h1, h2, h3⟩
  | .pickR rows i k, h => by
    cases h with
    | mk e he h =>
      obtain ⟨v, ups, σ', h1, h2, h3⟩ := act_out h
      exact ⟨v, ups, σ', .pickR he h1, h2, h3⟩
  | .unM rows k, h => by
    cases h with
    | mk rs he h =>
      obtain ⟨v, ups, σ', h1, h2, h3⟩ := act_out h
      exact ⟨v, ups, σ', .unM he h1, h2, h3⟩
  | .look es k hit miss, h => by
    cases hg : mget es k with
    | some x =>
      obtain ⟨v, ups, σ', h1, h2, h3⟩ := act_out (h.hit x hg)
      exact ⟨v, ups, σ', .hit hg h1, h2, h3⟩
    | none =>
      obtain ⟨v, ups, σ', h1, h2, h3⟩ := act_out (h.miss hg)
      exact ⟨v, ups, σ', .miss hg h1, h2, h3⟩
  | .nilq es x y, h => by
    by_cases he : es = []
    · cases hb : wd.nl with
      | true =>
        obtain ⟨v, ups, σ', h1, h2, h3⟩ := act_out (h.yes he)
        exact ⟨v, ups, σ', .nilY rfl hb he h1, h2, h3⟩
      | false =>
        obtain ⟨v, ups, σ', h1, h2, h3⟩ := act_out h.no
        exact ⟨v, ups, σ', .nilN rfl (.inl hb) h1, h2, h3⟩
    · obtain ⟨v, ups, σ', h1, h2, h3⟩ := act_out h.no
      exact ⟨v, ups, σ', .nilN rfl (.inr he) h1, h2, h3⟩
  | .nxt es seen hit miss, h => by
    have hm : ∃ v ups σ', Out P (some wd) (match chW wd.w es.length seen with
        | some j => match es[j]? with
          | some p => hit j p
          | none => miss
        | none => miss) v ups ∧ (∃ T1, UpsR dst ups σ.get (lk σ.bx) T1 (lk σ'.bx) ∧ PutR N dst v T1 (lk σ'.bx) σ'.get) ∧ K σ' := by
      cases hc : chW wd.w es.length seen with
      | some j =>
        obtain ⟨hj, hs⟩ := chW_some hc
        simp only [List.getElem?_eq_getElem hj]
        exact act_out (h.hit j _ (List.getElem?_eq_getElem hj) hs)
      | none => exact act_out (h.miss (chW_none hc))
    obtain ⟨v, ups, σ', h1, h2, h3⟩ := hm
    exact ⟨v, ups, σ', .nxt rfl h1, h2, h3⟩
  | .alt x y, h => by
    cases h with
    | l h =>
      obtain ⟨v, ups, σ', h1, h2, h3⟩ := act_out h
      exact ⟨v, ups, σ', .altL h1, h2, h3⟩
    | r h =>
      obtain ⟨v, ups, σ', h1, h2, h3⟩ := act_out h
      exact ⟨v, ups, σ', .altR h1, h2, h3⟩
  | .pick es i k, h => by
    cases h with
    | mk e he h =>
      obtain ⟨v, ups, σ', h1, h2, h3⟩ := act_out h
      exact ⟨v, ups, σ', .pick he h1, h2, h3⟩
  | .wr ik n k, h => by
    cases h with
    | mk z hz h =>
      obtain ⟨v, ups, σ', h1, h2, h3⟩ := act_out h
      exact ⟨v, ups, σ', .wr hz h1, h2, h3⟩
  | .bad, h => by cases h

variable {w0 : Ent} {A0 : Sta} {N : Nat}
/-- An abstract state against a frame and a world. -/
def Rel (w0 : Ent) (A0 : Sta) (N : Nat) (σ : St) (a : Act) (w : World) : Prop := ∃ L A, Inv w0 A0 N L A σ.get (lk σ.bx) a w

theorem step_sound (hS : TysOk P S) {o : Oper} {σ : St} {K : St → Prop} {a : Act} {w : World} {K' : Act → World → Prop} {Q : Exit → Act → World → Prop} (h : step P S N o σ K) (hr : Rel w0 A0 N σ a w)
    (hK : ∀ σ' a' w', Rel w0 A0 N σ' a' w' → K σ' → K' a' w') : o.wp P a w K' Q := by
  obtain ⟨L, A, hI⟩ := hr
  obtain ⟨v, ups, σ', h1, ⟨T1, h2, h3⟩, h4⟩ := act_out h
  exact (op_sound hS o).run rfl hI h1 h2 h3 fun L' A' a' w' hI' => hK σ' a' w' ⟨L', A', hI'⟩ h4

theorem gsp_out {g : Bool} {dst : Option Nat} {σ : St} {K : St → Prop} (h : gsp g N dst σ K) : ∃ σ', σ'.get = σ.get ∧ σ'.bx = σ.bx ∧ K σ' := by
  cases g with
  | false => exact ⟨σ, rfl, rfl, h⟩
  | true =>
    cases dst with
    | none => exact ⟨σ, rfl, rfl, h⟩
    | some t =>
      simp only [gsp] at h
      split at h
      · rename_i b hb
        have same : ∀ σ' : St, PutR N (some t) (.d (.bool b)) σ.get (lk σ.bx) σ'.get → σ'.get = σ.get := by
          rintro σ' ⟨_, _, h3⟩
          rw [h3]
          funext i
          by_cases e : i = t
          · subst e; rw [upd_same, hb]
          · rw [upd_ne _ _ e]
        cases b with
        | true =>
          obtain ⟨σ', h1, h2, h3⟩ := putK_out (h.yes rfl)
          exact ⟨σ', same σ' h1, h2, h3⟩
        | false =>
          obtain ⟨σ', h1, h2, h3⟩ := putK_out (h.no rfl)
          exact ⟨σ', same σ' h1, h2, h3⟩
      · exact ⟨σ, rfl, rfl, h⟩

theorem wanted_sound {ops : Array Oper} {o : Oper} {σ : St} {a : Act} {w : World} (hr : Rel w0 A0 N σ a w) :
    (wantedA ops.toList o σ = .go → Region.wanted o (yielded ops a.tmps) = true) ∧ (wantedA ops.toList o σ = .skip → Region.wanted o (yielded ops a.tmps) = false) := by
  obtain ⟨L, A, hI⟩ := hr
  unfold wantedA Region.wanted
  cases hg : o.guard with
  | none => exact ⟨fun _ => rfl, (fun h => by cases h)⟩
  | some jw =>
    obtain ⟨j, want⟩ := jw
    have hd : dstOf ops.toList j = (ops[j]?).bind (·.dst) := by
      simp only [dstOf, Array.getElem?_toList]
      cases ops[j]? <;> rfl
    simp only
    rw [hd]
    unfold yielded
    cases hj : (ops[j]?).bind (·.dst) with
    | none => exact ⟨(fun h => by cases h), fun _ => by simp⟩
    | some t =>
      simp only [Option.bind_some]
      have htm := hI.tm t
      split
      · rename_i b hb
        rw [hb] at htm
        have hv := rv_bool htm
        have hval : a.tmps[t]? = some (.bool b) := by
          rw [Array.getD_eq_getD_getElem?] at hv
          cases hq : a.tmps[t]? with
          | none => rw [hq] at hv; cases hv
          | some z => rw [hq] at hv; simp only [Option.getD_some] at hv; rw [hv]
        rw [hval]
        cases b <;> cases want <;> simp
      · rename_i hb
        rw [hb] at htm
        refine ⟨(fun h => by cases h), fun _ => ?_⟩
        have hv : a.tmps.getD t undef = undef := by
          generalize a.tmps.getD t undef = z at htm
          cases htm; rfl
        rw [Array.getD_eq_getD_getElem?] at hv
        cases hq : a.tmps[t]? with
        | none => simp
        | some z => rw [hq] at hv; simp only [Option.getD_some] at hv; subst hv; simp [undef]
      · exact ⟨(fun h => by cases h), (fun h => by cases h)⟩

theorem steps_sound (hS : TysOk P S) {ops : Array Oper} {Q : Exit → Act → World → Prop} : ∀ (r : List Oper) (idx : Nat) (pre : List Oper) {σ : St} {K : St → Prop} {a : Act} {w : World},
    ops.toList = pre ++ r → idx = pre.length → steps P S N ops.toList idx r σ K → Rel w0 A0 N σ a w →
    (∀ σ' a' w', Rel w0 A0 N σ' a' w' → K σ' → Q .normal a' w') → wpOps P ops Q (List.range' idx r.length) a w
  | [], idx, pre, σ, K, a, w, _, _, h, hr, hK => hK σ a w hr h
  | o :: r, idx, pre, σ, K, a, w, hops, hidx, h, hr, hK => by
    have hget : ops[idx]? = some o := by
      rw [← Array.getElem?_toList, hops, hidx, List.getElem?_append_right (Nat.le_refl _), Nat.sub_self]; rfl
    have next : ∀ {σ' : St} {a' : Act} {w' : World}, steps P S N ops.toList (idx + 1) r σ' K → Rel w0 A0 N σ' a' w' → wpOps P ops Q (List.range' (idx + 1) r.length) a' w' := fun h' hr' =>
      steps_sound hS r (idx + 1) (pre ++ [o]) (by rw [hops]; simp) (by simp [hidx]) h' hr' hK
    rw [List.length_cons, List.range'_succ, wpOps_cons]
    unfold wpOp
    rw [hget]
    obtain ⟨w1, w2⟩ := wanted_sound (ops := ops) (o := o) hr
    rw [steps_cons] at h
    split at h
    · rename_i hw
      simp only [w1 hw, if_true]
      refine .inl (step_sound hS h hr fun σ' a' w' hr' h' => ?_)
      obtain ⟨σ'', h1, h2, h3⟩ := gsp_out h'
      refine next h3 ?_
      unfold Rel at hr' ⊢
      rw [h1, h2]
      exact hr'
    · rename_i hw
      simp only [w2 hw, Bool.false_eq_true, if_false]
      obtain ⟨σ', h1, h2, h3⟩ := putK_out h
      obtain ⟨L, A, hI⟩ := hr
      refine next h3 ⟨L, A, ?_⟩
      rw [h2]
      exact undef_fin hI h1
    · cases h
end
end Go.Vm
