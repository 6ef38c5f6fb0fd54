/- Texts VmP VmQ VmR, joined. -/
import Derived.Test.YtokamphljnlkpaaGreatDoorMgF
section
/- Every operation is sound; the evaluator's lists against the functions that the laws speak of; a region in the order of its text. -/
namespace Go.Vm
open Go.RowKit (Below)
section
variable {P : Program} {S : Tys}
theorem op_sound (hS : TysOk P S) (o : Oper) : Sound P S o := by
 obtain ⟨dst, op, type, pos, after, guard⟩ := o
 have bad : (∀ dr ρ B, eff S dr ⟨dst, op, type, pos, after, guard⟩ ρ B = .bad) → Sound P S ⟨dst, op, type, pos, after, guard⟩ := by
  intro h
  refine ⟨?_⟩
  intro w0 A0 N L A T B a w v ups T1 B1 T2 K Q oc dr hoc hI ho hu hp hK
  rw [h] at ho
  cases ho
 cases op with
 | move x => exact s_move x
 | nilCheck x => exact s_nilCheck x
 | assign x => exact s_assign x
 | pick c x y => exact s_pick c x y
 | alloc e => exact s_alloc hS e
 | box e x => exact s_box e x
 | build t ps => exact s_build hS t ps
 | buildSlice t n ps => exact s_buildSlice hS t n ps
 | load t x => exact s_load hS t x
 | store t x y => exact s_store hS t x y
 | binOp op t x y t' => exact s_binOp hS op t t' x y
 | unOp op t x => exact s_unOp op t x
 | convert s t x => exact s_convert hS s t x
 | makeFunc fn first caps => exact s_makeFunc fn first caps
 | makeSlice t n c => exact s_makeSlice hS t n c
 | makeMap t r => cases r with
  | none => exact s_makeMap t
  | some r => exact bad fun _ _ _ => rfl
 | lookup t x i ok => exact s_lookup hS t x i ok
 | mapUpdate t m i x => exact s_mapUpdate hS t m i x
 | insert t m i x => exact s_insert hS t m i x
 | range t x => exact s_range hS t x
 | next x str => exact s_next x str
 | entry x => exact s_entry x
 | slice t x lo hi mx => exact s_slice hS t x lo hi mx
 | fieldAddr t x f => exact s_fieldAddr hS t x f
 | field t x f => exact s_field hS t x f
 | indexAddr t x i => exact s_indexAddr hS t x i
 | index t x i => exact s_index hS t x i
 | extract x i => exact s_extract x i
 | call c =>
  obtain ⟨callee, args, argTypes⟩ := c
  cases callee with
  | value f => exact s_callF f args argTypes
  | invoke r m => exact bad fun _ _ _ => rfl
  | builtin b =>
   cases b with
   | len => exact s_len hS args argTypes
   | min => exact s_min args argTypes
   | max => exact s_max args argTypes
   | append => exact s_append hS (appZ_ok hS) args argTypes
   | cap => exact s_cap hS args argTypes
   | clear => exact s_clear hS args argTypes
   | copy => exact s_copy hS args argTypes
   | _ => exact bad fun _ _ _ => rfl
 | _ => exact bad fun _ _ _ => rfl

/-! Lists as functions. -/
def stF {α : Type} : List (Nat × α) → Nat → α → List (Nat × α)
 | [], j, v => [(j, v)]
 |(i, u) :: r, j, v => match Nat.beq i j with
  | true => (i, v) :: r
  | false => (i, u) :: stF r j v
theorem stK_eq {α β : Type} : ∀ (l : List (Nat × α)) (j : Nat) (v : α) (k : List (Nat × α) → β), stK l j v k = k (stF l j v)
 | [], j, v, k => rfl
 |(i, u) :: r, j, v, k => by
  simp only [stK, stF]
  cases Nat.beq i j with
  | true => rfl
  | false => exact stK_eq r j v _
theorem beq_false_ne {i j : Nat} (h : Nat.beq i j = false) : i ≠ j := by
 rintro rfl
 rw [Nat.beq_refl] at h
 cases h
theorem beq_ne_false {i j : Nat} (h : i ≠ j) : Nat.beq i j = false := by
 cases e : Nat.beq i j with
 | false => rfl
 | true => exact absurd (Nat.eq_of_beq_eq_true e) h
theorem lk_cons {α : Type} (k : Nat) (v : α) (r : List (Nat × α)) (j : Nat) : lk ((k, v) :: r) j = if j = k then some v else lk r j := by
 by_cases e : j = k
 ·subst e; simp [lk, Nat.beq_refl]
 ·rw [if_neg e]; simp only [lk, beq_ne_false (fun e' => e e'.symm)]
theorem lk_stF {α : Type} : ∀ (l : List (Nat × α)) (j : Nat) (v : α), lk (stF l j v) = upd (lk l) j (some v)
 | [], j, v => by
  funext i
  by_cases e : i = j
  ·subst e; rw [upd_same]; simp [stF, lk_cons]
  ·rw [upd_ne _ _ e]; simp [stF, lk_cons, e]
 |(k, u) :: r, j, v => by
  funext i
  simp only [stF]
  cases e : Nat.beq k j with
  | true =>
   have e := Nat.eq_of_beq_eq_true e
   subst e
   simp only [lk_cons, upd]
   split <;> rfl
  | false =>
   have e := beq_false_ne e
   simp only [lk_cons, lk_stF r j v, upd]
   by_cases h1 : i = k
   ·subst h1; rw [if_pos rfl, if_neg e, if_pos rfl]
   ·rw [if_neg h1, if_neg h1]
def rmF {α : Type} : List (Nat × α) → Nat → List (Nat × α)
 | [], _ => []
 |(i, u) :: r, j => match Nat.beq i j with
  | true => rmF r j
  | false => (i, u) :: rmF r j
theorem rmK_eq {α β : Type} : ∀ (l : List (Nat × α)) (j : Nat) (k : List (Nat × α) → β), rmK l j k = k (rmF l j)
 | [], j, k => rfl
 |(i, u) :: r, j, k => by
  simp only [rmK, rmF]
  cases Nat.beq i j with
  | true => exact rmK_eq r j _
  | false => exact rmK_eq r j _
theorem lk_rmF {α : Type} : ∀ (l : List (Nat × α)) (j i : Nat), lk (rmF l j) i = if i = j then none else lk l i
 | [], j, i => by simp [rmF, lk]
 |(k, u) :: r, j, i => by
  simp only [rmF]
  cases e : Nat.beq k j with
  | true =>
   have e := Nat.eq_of_beq_eq_true e
   subst e
   simp only [lk_rmF r k i, lk_cons]
   split <;> simp_all
  | false =>
   have e := beq_false_ne e
   simp only [lk_cons, lk_rmF r j i]
   by_cases h1 : i = k
   ·subst h1; simp [e]
   ·simp [h1]
def pgTF (b : Nat) : List (Nat × AV) → List (Nat × AV)
 | [] => []
 |(i, u) :: r => match u.men b with
  | true => (i, .junk) :: pgTF b r
  | false => (i, u) :: pgTF b r
theorem pgTK_eq {β : Type} (b : Nat) : ∀ (l : List (Nat × AV)) (k : List (Nat × AV) → β), pgTK b l k = k (pgTF b l)
 | [], k => rfl
 |(i, u) :: r, k => by
  simp only [pgTK, pgTF]
  cases u.men b with
  | true => exact pgTK_eq b r _
  | false => exact pgTK_eq b r _
theorem get_pgTF (b : Nat) : ∀ (l : List (Nat × AV)) (t : Nat), (match lk (pgTF b l) t with | some v => v | none => AV.junk) = if (match lk l t with | some v => v | none => AV.junk).men b = true then .junk else (match lk l t with | some v => v | none => AV.junk)
 | [], t => rfl
 |(i, u) :: r, t => by
  have ih := get_pgTF b r t
  simp only [pgTF]
  cases e : u.men b with
  | true =>
   by_cases h1 : t = i
   ·subst h1; simp [lk_cons, e]
   ·simp only [lk_cons, if_neg h1]; exact ih
  | false =>
   by_cases h1 : t = i
   ·subst h1; simp [lk_cons, e]
   ·simp only [lk_cons, if_neg h1]; exact ih
def pgBF (b : Nat) : List (Nat × Bx) → List (Nat × Bx)
 | [] => []
 |(i, x) :: r => (i, pgX b x) :: pgBF b r
theorem pg1_id {b : Nat} : ∀ {cs : List AV}, AV.menL b cs = false → cs.map (pg1 b) = cs
 | [], _ => rfl
 | c :: cs, h => by
  simp only [AV.menL] at h
  cases e : c.men1 b with
  | true => rw [e] at h; cases h
  | false =>
   rw [e] at h
   simp only [List.map_cons, pg1, e, pg1_id h]
theorem pgBK_eq {β : Type} (b : Nat) : ∀ (l : List (Nat × Bx)) (k : List (Nat × Bx) → β), pgBK b l k = k (pgBF b l)
 | [], k => rfl
 |(i, x) :: r, k => by
  cases x with
  | var cs fz =>
   simp only [pgBK, pgBF, pgX]
   cases e : AV.menL b cs with
   | true => exact pgBK_eq b r _
   | false => simp only [pgBK_eq b r, pg1_id e]
  | row et sz es fz => simp only [pgBK, pgBF, pgX, pgBK_eq b r]
  | arr es fz => simp only [pgBK, pgBF, pgX, pgBK_eq b r]
  | mat et ie v rows => simp only [pgBK, pgBF, pgX, pgBK_eq b r]
  | map kt et kd es => simp only [pgBK, pgBF, pgX, pgBK_eq b r]
  | iter m n seen => simp only [pgBK, pgBF, pgX, pgBK_eq b r]
  | gone => simp only [pgBK, pgBF, pgX, pgBK_eq b r]
  | shp v n q => simp only [pgBK, pgBF, pgX, pgBK_eq b r]
  | bld v T e s => simp only [pgBK, pgBF, pgX, pgBK_eq b r]
theorem lk_pgBF (b : Nat) : ∀ (l : List (Nat × Bx)) (i : Nat), lk (pgBF b l) i = (lk l i).map (pgX b)
 | [], i => rfl
 |(k, x) :: r, i => by
  simp only [pgBF, lk_cons, lk_pgBF b r i]
  split <;> rfl

theorem okIn_men {bx : List (Nat × Bx)} {b : Nat} {v : AV} (h : v.okIn bx = true) (hm : v.men b = true) : lk bx b ≠ none := okIn_lk h hm
theorem bx_okIn_men {bx : List (Nat × Bx)} {b : Nat} {x : Bx} (h : x.okIn bx = true) (hm : x.men b = true) : lk bx b ≠ none := bx_okIn_lk h hm

theorem upsK_out {dst : Option Nat} : ∀ {ups : List (Nat × Option Bx)} {σ : St} {K : St → Prop}, upsK dst ups σ K → ∃ σ1, UpsR dst ups σ.get (lk σ.bx) σ1.get (lk σ1.bx) ∧ K σ1
 | [], σ, K, h => ⟨σ, .nil _ _, h⟩
 |(b, none) :: r, ⟨T, bx⟩, K, h => by
  simp only [upsK, rmK_eq, pgBK_eq, pgTK_eq] at h
  obtain ⟨σ1, h1, h2⟩ := upsK_out h
  refine ⟨σ1, .kill ?_, h2⟩
  have e1 : killT (St.get ⟨T, bx⟩) b = St.get ⟨pgTF b T, pgBF b (rmF bx b)⟩ := by
   funext t
   exact (get_pgTF b T t).symm
  have e2 : killB (lk bx) b = lk (pgBF b (rmF bx b)) := by
   funext i
   rw [lk_pgBF, lk_rmF]
   unfold killB
   split <;> rfl
  rw [e1, e2]
  exact h1
 |(b, some x) :: r, ⟨T, bx⟩, K, h => by
  have step : ∀ {h : upsK dst r ⟨T, stF bx b x⟩ K}, ∃ σ1, UpsR dst r (St.get ⟨T, bx⟩) (upd (lk bx) b (some x)) σ1.get (lk σ1.bx) ∧ K σ1 := by
   intro h
   obtain ⟨σ1, h1, h2⟩ := upsK_out h
   refine ⟨σ1, ?_, h2⟩
   rw [← lk_stF]
   exact h1
  simp only [upsK, stK_eq] at h
  split at h
  ·rename_i hok
   have men : ∀ b', Bx.men b' x = true → lk bx b' ≠ none := fun b' hm => bx_okIn_men hok hm
   split at h
   ·rename_i h1 h2 h3
    obtain ⟨σ1, k1, k2⟩ := step (h := h)
    exact ⟨σ1, .new h1 h2 h3 men k1, k2⟩
   ·rename_i h1 h3
    obtain ⟨σ1, k1, k2⟩ := step (h := h)
    exact ⟨σ1, .set h1 (by rw [h3]; simp) men k1, k2⟩
   ·cases h
  ·cases h

theorem get_stF (T : List (Nat × AV)) (bx : List (Nat × Bx)) (t : Nat) (v : AV) : St.get ⟨stF T t v, bx⟩ = upd (St.get ⟨T, bx⟩) t v := by
 funext i
 simp only [St.get, lk_stF, upd]
 by_cases e : i = t
 ·rw [if_pos e, if_pos e]
 ·rw [if_neg e, if_neg e]
theorem putK_out {N : Nat} {dst : Option Nat} {σ : St} {v : AV} {K : St → Prop} (h : putK N dst σ v K) : ∃ σ', PutR N dst v σ.get (lk σ.bx) σ'.get ∧ σ'.bx = σ.bx ∧ K σ' := by
 obtain ⟨T, bx⟩ := σ
 cases dst with
 | none => exact ⟨⟨T, bx⟩, rfl, rfl, h⟩
 | some t =>
  simp only [putK, forceK_eq, stK_eq] at h
  split at h
  ·rename_i h1 h2
   refine ⟨⟨stF T t v, bx⟩, ⟨Nat.le_of_ble_eq_true h1, fun b hb => okIn_men h2 hb, get_stF T bx t v⟩, rfl, h⟩
  ·cases h

theorem act_out {wd : Orc} {N : Nat} {dst : Option Nat} {σ : St} {K : St → Prop} : ∀ {r : Res}, act P N dst σ K r →
 ∃ v ups σ', Out P (some wd) r v ups ∧ (∃ T1, UpsR dst ups σ.get (lk σ.bx) T1 (lk σ'.bx) ∧ PutR N dst v T1 (lk σ'.bx) σ'.get) ∧ K σ'
 | .ok v ups, h => by
  obtain ⟨σ1, h1, h2⟩ := upsK_out h
  obtain ⟨σ', h3, h4, h5⟩ := putK_out h2
  exact ⟨v, ups, σ', .ok _ _, ⟨σ1.get, by rw [h4]; exact h1, by rw [h4]; exact h3⟩, h5⟩
 | .call f args ups, h => by
  cases h with
  | mk r hev h =>
   obtain ⟨σ1, h1, h2⟩ := upsK_out h
   obtain ⟨σ', h3, h4, h5⟩ := putK_out h2
   exact ⟨.d r, ups, σ', .call hev, ⟨σ1.get, by rw [h4]; exact h1, by rw [h4]; exact h3⟩, h5⟩
 | .callX t f xs hs, h => by
  cases h with
  | mk v us hev hok h =>
   obtain ⟨σ1, h1, h2⟩ := upsK_out h
   obtain ⟨σ', h3, h4, h5⟩ := putK_out h2
   exact ⟨v, _, σ', .callX hev hok, ⟨σ1.get, by rw [h4]; exact h1, by rw [h4]; exact h3⟩, h5⟩
 | .need p r, h => by
  obtain ⟨v, ups, σ', h1, h2, h3⟩ := act_out h.rest
  exact ⟨v, ups, σ', .need h.side h1, h2, h3⟩
 | .pickR rows i k, h => by
  cases h with
  | mk e he h =>
   obtain ⟨v, ups, σ', h1, h2, h3⟩ := act_out h
   exact ⟨v, ups, σ', .pickR he h1, h2, h3⟩
 | .unM rows k, h => by
  cases h with
  | mk rs he h =>
   obtain ⟨v, ups, σ', h1, h2, h3⟩ := act_out h
   exact ⟨v, ups, σ', .unM he h1, h2, h3⟩
 | .look es k hit miss, h => by
  cases hg : mget es k with
  | some x =>
   obtain ⟨v, ups, σ', h1, h2, h3⟩ := act_out (h.hit x hg)
   exact ⟨v, ups, σ', .hit hg h1, h2, h3⟩
  | none =>
   obtain ⟨v, ups, σ', h1, h2, h3⟩ := act_out (h.miss hg)
   exact ⟨v, ups, σ', .miss hg h1, h2, h3⟩
 | .nilq es x y, h => by
  by_cases he : es = []
  ·cases hb : wd.nl with
   | true =>
    obtain ⟨v, ups, σ', h1, h2, h3⟩ := act_out (h.yes he)
    exact ⟨v, ups, σ', .nilY rfl hb he h1, h2, h3⟩
   | false =>
    obtain ⟨v, ups, σ', h1, h2, h3⟩ := act_out h.no
    exact ⟨v, ups, σ', .nilN rfl (.inl hb) h1, h2, h3⟩
  ·obtain ⟨v, ups, σ', h1, h2, h3⟩ := act_out h.no
   exact ⟨v, ups, σ', .nilN rfl (.inr he) h1, h2, h3⟩
 | .nxt es seen hit miss, h => by
  have hm : ∃ v ups σ', Out P (some wd) (match chW wd.w es.length seen with
   | some j => match es[j]? with
    | some p => hit j p
    | none => miss
   | none => miss) v ups ∧ (∃ T1, UpsR dst ups σ.get (lk σ.bx) T1 (lk σ'.bx) ∧ PutR N dst v T1 (lk σ'.bx) σ'.get) ∧ K σ' := by
   cases hc : chW wd.w es.length seen with
   | some j =>
    obtain ⟨hj, hs⟩ := chW_some hc
    simp only [List.getElem?_eq_getElem hj]
    exact act_out (h.hit j _ (List.getElem?_eq_getElem hj) hs)
   | none => exact act_out (h.miss (chW_none hc))
  obtain ⟨v, ups, σ', h1, h2, h3⟩ := hm
  exact ⟨v, ups, σ', .nxt rfl h1, h2, h3⟩
 | .alt x y, h => by
  cases h with
  | l h =>
   obtain ⟨v, ups, σ', h1, h2, h3⟩ := act_out h
   exact ⟨v, ups, σ', .altL h1, h2, h3⟩
  | r h =>
   obtain ⟨v, ups, σ', h1, h2, h3⟩ := act_out h
   exact ⟨v, ups, σ', .altR h1, h2, h3⟩
 | .pick es i k, h => by
  cases h with
  | mk e he h =>
   obtain ⟨v, ups, σ', h1, h2, h3⟩ := act_out h
   exact ⟨v, ups, σ', .pick he h1, h2, h3⟩
 | .wr ik n k, h => by
  cases h with
  | mk z hz h =>
   obtain ⟨v, ups, σ', h1, h2, h3⟩ := act_out h
   exact ⟨v, ups, σ', .wr hz h1, h2, h3⟩
 | .bad, h => by cases h

variable {w0 : Ent} {A0 : Sta} {N : Nat}
def Rel (w0 : Ent) (A0 : Sta) (N : Nat) (σ : St) (a : Act) (w : World) : Prop := ∃ L A, Inv w0 A0 N L A σ.get (lk σ.bx) a w

theorem step_sound (hS : TysOk P S) {o : Oper} {σ : St} {K : St → Prop} {a : Act} {w : World} {K' : Act → World → Prop} {Q : Exit → Act → World → Prop} (h : step P S N o σ K) (hr : Rel w0 A0 N σ a w)
 (hK : ∀ σ' a' w', Rel w0 A0 N σ' a' w' → K σ' → K' a' w') : o.wp P a w K' Q := by
 obtain ⟨L, A, hI⟩ := hr
 obtain ⟨v, ups, σ', h1, ⟨T1, h2, h3⟩, h4⟩ := act_out h
 exact (op_sound hS o).run rfl hI h1 h2 h3 fun L' A' a' w' hI' => hK σ' a' w' ⟨L', A', hI'⟩ h4

theorem gsp_out {g : Bool} {dst : Option Nat} {σ : St} {K : St → Prop} (h : gsp g N dst σ K) : ∃ σ', σ'.get = σ.get ∧ σ'.bx = σ.bx ∧ K σ' := by
 cases g with
 | false => exact ⟨σ, rfl, rfl, h⟩
 | true =>
  cases dst with
  | none => exact ⟨σ, rfl, rfl, h⟩
  | some t =>
   simp only [gsp] at h
   split at h
   ·rename_i b hb
    have same : ∀ σ' : St, PutR N (some t) (.d (.bool b)) σ.get (lk σ.bx) σ'.get → σ'.get = σ.get := by
     rintro σ' ⟨_, _, h3⟩
     rw [h3]
     funext i
     by_cases e : i = t
     ·subst e; rw [upd_same, hb]
     ·rw [upd_ne _ _ e]
    cases b with
    | true =>
     obtain ⟨σ', h1, h2, h3⟩ := putK_out (h.yes rfl)
     exact ⟨σ', same σ' h1, h2, h3⟩
    | false =>
     obtain ⟨σ', h1, h2, h3⟩ := putK_out (h.no rfl)
     exact ⟨σ', same σ' h1, h2, h3⟩
   ·exact ⟨σ, rfl, rfl, h⟩

theorem wanted_sound {ops : Array Oper} {o : Oper} {σ : St} {a : Act} {w : World} (hr : Rel w0 A0 N σ a w) :
 (wantedA ops.toList o σ = .go → Region.wanted o (yielded ops a.tmps) = true) ∧ (wantedA ops.toList o σ = .skip → Region.wanted o (yielded ops a.tmps) = false) := by
 obtain ⟨L, A, hI⟩ := hr
 unfold wantedA Region.wanted
 cases hg : o.guard with
 | none => exact ⟨fun _ => rfl, (fun h => by cases h)⟩
 | some jw =>
  obtain ⟨j, want⟩ := jw
  have hd : dstOf ops.toList j = (ops[j]?).bind (·.dst) := by
   simp only [dstOf, Array.getElem?_toList]
   cases ops[j]? <;> rfl
  simp only
  rw [hd]
  unfold yielded
  cases hj : (ops[j]?).bind (·.dst) with
  | none => exact ⟨(fun h => by cases h), fun _ => by simp⟩
  | some t =>
   simp only [Option.bind_some]
   have htm := hI.tm t
   split
   ·rename_i b hb
    rw [hb] at htm
    have hv := rv_bool htm
    have hval : a.tmps[t]? = some (.bool b) := by
     rw [Array.getD_eq_getD_getElem?] at hv
     cases hq : a.tmps[t]? with
     | none => rw [hq] at hv; cases hv
     | some z => rw [hq] at hv; simp only [Option.getD_some] at hv; rw [hv]
    rw [hval]
    cases b <;> cases want <;> simp
   ·rename_i hb
    rw [hb] at htm
    refine ⟨(fun h => by cases h), fun _ => ?_⟩
    have hv : a.tmps.getD t undef = undef := by
     generalize a.tmps.getD t undef = z at htm
     cases htm; rfl
    rw [Array.getD_eq_getD_getElem?] at hv
    cases hq : a.tmps[t]? with
    | none => simp
    | some z => rw [hq] at hv; simp only [Option.getD_some] at hv; subst hv; simp [undef]
   ·exact ⟨(fun h => by cases h), (fun h => by cases h)⟩

theorem steps_sound (hS : TysOk P S) {ops : Array Oper} {Q : Exit → Act → World → Prop} : ∀ (r : List Oper) (idx : Nat) (pre : List Oper) {σ : St} {K : St → Prop} {a : Act} {w : World},
 ops.toList = pre ++ r → idx = pre.length → steps P S N ops.toList idx r σ K → Rel w0 A0 N σ a w →
 (∀ σ' a' w', Rel w0 A0 N σ' a' w' → K σ' → Q .normal a' w') → wpOps P ops Q (List.range' idx r.length) a w
 | [], idx, pre, σ, K, a, w, _, _, h, hr, hK => hK σ a w hr h
 | o :: r, idx, pre, σ, K, a, w, hops, hidx, h, hr, hK => by
  have hget : ops[idx]? = some o := by
   rw [← Array.getElem?_toList, hops, hidx, List.getElem?_append_right (Nat.le_refl _), Nat.sub_self]; rfl
  have next : ∀ {σ' : St} {a' : Act} {w' : World}, steps P S N ops.toList (idx + 1) r σ' K → Rel w0 A0 N σ' a' w' → wpOps P ops Q (List.range' (idx + 1) r.length) a' w' := fun h' hr' =>
   steps_sound hS r (idx + 1) (pre ++ [o]) (by rw [hops]; simp) (by simp [hidx]) h' hr' hK
  rw [List.length_cons, List.range'_succ, wpOps_cons]
  unfold wpOp
  rw [hget]
  obtain ⟨w1, w2⟩ := wanted_sound (ops := ops) (o := o) hr
  rw [steps_cons] at h
  split at h
  ·rename_i hw
   simp only [w1 hw, if_true]
   refine .inl (step_sound hS h hr fun σ' a' w' hr' h' => ?_)
   obtain ⟨σ'', h1, h2, h3⟩ := gsp_out h'
   refine next h3 ?_
   unfold Rel at hr' ⊢
   rw [h1, h2]
   exact hr'
  ·rename_i hw
   simp only [w2 hw, Bool.false_eq_true, if_false]
   obtain ⟨σ', h1, h2, h3⟩ := putK_out h
   obtain ⟨L, A, hI⟩ := hr
   refine next h3 ⟨L, A, ?_⟩
   rw [h2]
   exact undef_fin hI h1
  ·cases h
end
end Go.Vm
end

section
/- What an operation reads: the evaluator gives the same where its operands and their boxes are the same. -/
namespace Go.Vm
section
variable {S : Tys} {B B' : Nat → Option Bx}
theorem mem_sub1 {c : AV} {cs : List AV} {b : Nat} (h : b ∈ c.mens1) : b ∈ AV.mensL (c :: cs) := mem_mensL List.mem_cons_self h
theorem mem_subL {c : AV} {cs : List AV} {b : Nat} (h : b ∈ AV.mensL cs) : b ∈ AV.mensL (c :: cs) := by
 simp only [AV.mensL]
 split
 ·exact h
 ·exact List.mem_cons_of_mem _ (List.mem_append_right _ h)
theorem frzCap_congr : ∀ {cs : List Cap}, (∀ b ∈ capMens cs, B b = B' b) → ∀ (k : List D → List (Nat × Option Bx) → Res), frzCap B cs k = frzCap B' cs k
 | [], _, k => rfl
 | .dat x :: r, h, k => by
  simp only [frzCap]
  exact frzCap_congr (cs := r) h _
 | .box b :: r, h, k => by
  have h1 : ∀ c ∈ capMens r, B c = B' c := fun c hc => h c (by simp [capMens, hc])
  simp only [frzCap, h b (by simp [capMens]), fun k => frzCap_congr (cs := r) h1 k]
theorem frzK_congr {v : AV} (h : ∀ b ∈ v.mens1, B b = B' b) (k : D → List (Nat × Option Bx) → Res) : frzK B v k = frzK B' v k := by
 cases v with
 | own b sz n => simp only [frzK]; rw [h b (by simp [AV.mens1])]
 | fnv f cs => simp only [frzK]; exact frzCap_congr h _
 | _ => rfl
theorem frzLK_congr : ∀ {cs : List AV}, (∀ b ∈ AV.mensL cs, B b = B' b) → ∀ (k : List D → List (Nat × Option Bx) → Res), frzLK B cs k = frzLK B' cs k
 | [], _, k => rfl
 | c :: cs, h, k => by
  simp only [frzLK]
  rw [frzK_congr fun b hb => h b (mem_sub1 hb)]
  congr 1
  funext x u
  exact frzLK_congr (fun b hb => h b (mem_subL hb)) _
theorem frzAK_congr {v : AV} (h : ∀ b ∈ v.mens, B b = B' b) (k : D → List (Nat × Option Bx) → Res) : frzAK B v k = frzAK B' v k := by
 cases v with
 | agg cs => simp only [frzAK]; exact frzLK_congr h _
 | tup cs => rfl
 | d x => rfl
 | own b sz n => exact frzK_congr (v := .own b sz n) h k
 | fnv f cs => exact frzK_congr (v := .fnv f cs) h k
 | _ => rfl
theorem frzALK_congr : ∀ {vs : List AV}, (∀ v ∈ vs, ∀ b ∈ v.mens, B b = B' b) → ∀ (k : List D → List (Nat × Option Bx) → Res), frzALK B vs k = frzALK B' vs k
 | [], _, k => rfl
 | v :: vs, h, k => by
  simp only [frzALK]
  rw [frzAK_congr (h v List.mem_cons_self)]
  congr 1
  funext x u
  exact frzALK_congr (fun v hv => h v (List.mem_cons_of_mem _ hv)) _
theorem srcK_congr {sz : Nat} {v : AV} (h : ∀ b ∈ v.mens, B b = B' b) (k : List D → Res) : srcK B sz v k = srcK B' sz v k := by
 cases v with
 | own b sz n => simp only [srcK]; rw [h b (by simp [AV.mens])]
 | sub b v i => simp only [srcK]; rw [h b (by simp [AV.mens])]
 | d y => cases y <;> rfl
 | _ => rfl
theorem viewE_congr {e sz : Nat} {v : AV} (h : ∀ b ∈ v.mens, B b = B' b) : viewE B e sz v = viewE B' e sz v := by
 cases v with
 | view b sz1 lo hi =>
  have hb : B b = B' b := h b (by simp [AV.mens])
  simp only [viewE, hb]
 | _ => rfl
theorem oldK_congr {dr : Bool} {e sz : Nat} {v : AV} (h : ∀ b ∈ v.mens, B b = B' b) (k : List D → Bool → List (Nat × Option Bx) → Res) : oldK B dr e sz v k = oldK B' dr e sz v k := by
 cases v with
 | own b sz n => simp only [oldK]; rw [h b (by simp [AV.mens])]
 | sub b v i => simp only [oldK]; rw [h b (by simp [AV.mens])]
 | d y => cases y <;> rfl
 | _ => rfl
theorem dstV_congr {v : AV} (h : ∀ b ∈ v.mens, B b = B' b) : dstV B v = dstV B' v := by
 cases v with
 | own b sz n => simp only [dstV]; rw [h b (by simp [AV.mens])]
 | view b sz lo hi => simp only [dstV]; rw [h b (by simp [AV.mens])]
 | _ => rfl
theorem srcV_congr {sz : Nat} {v : AV} (h : ∀ b ∈ v.mens, B b = B' b) (k : List D → Res) : srcV B sz v k = srcV B' sz v k := by
 cases v with
 | own b sz n => simp only [srcV]; rw [h b (by simp [AV.mens])]
 | view b sz lo hi => simp only [srcV]; rw [h b (by simp [AV.mens])]
 | d y => cases y <;> rfl
 | _ => rfl
theorem clearE_congr {T : TypeId} {v : AV} (h : ∀ b ∈ v.mens, B b = B' b) : clearE S B T v = clearE S B' T v := by
 cases v with
 | view b sz lo hi => simp only [clearE]; rw [h b (by simp [AV.mens])]
 | _ => rfl
theorem copyE_congr {T : TypeId} {x y : AV} (hx : ∀ b ∈ x.mens, B b = B' b) (hy : ∀ b ∈ y.mens, B b = B' b) : copyE S B T x y = copyE S B' T x y := by
 simp only [copyE, dstV_congr hx, fun sz k => srcV_congr (sz := sz) hy k]
theorem srcM_congr {v : AV} (h : ∀ b ∈ v.mens, B b = B' b) : srcM B v = srcM B' v := by
 cases v with
 | own b sz n => simp only [srcM]; rw [h b (by simp [AV.mens])]
 | _ => rfl
theorem oldM_congr {dr : Bool} {c et ie : Nat} {v : AV} (h : ∀ b ∈ v.mens, B b = B' b) : oldM B dr c et ie v = oldM B' dr c et ie v := by
 cases v with
 | own b sz n => simp only [oldM]; rw [h b (by simp [AV.mens])]
 | _ => rfl
theorem matAt_congr {v : AV} (h : ∀ b ∈ v.mens, B b = B' b) : matAt B v = matAt B' v := by
 cases v with
 | eptr b sz i off => simp only [matAt, h b (by simp [AV.mens])]
 | _ => rfl
theorem stBig_congr {ti : TI} {n : Nat} {x y : AV} (h : ∀ b ∈ x.mens, B b = B' b) : stBig B ti n x y = stBig B' ti n x y := by
 cases x with
 | ptr b off =>
  have hb := h b (by simp [AV.mens])
  cases off with
  | zero => cases y with
   | d z => cases z <;> first | rfl | simp only [stBig, hb]
   | _ => rfl
  | succ => rfl
 | _ => rfl
theorem stMat_congr {ti : TI} {T : TypeId} {q : Nat × Nat × Nat × Nat × List (Option (List D)) × Nat} {y : AV} (h : ∀ b ∈ y.mens, B b = B' b) : stMat B ti T q y = stMat B' ti T q y := by
 obtain ⟨b, et, ie, v, rows, i⟩ := q
 unfold stMat
 cases hg : isAggT ti.und with
 | true => cases y <;> rfl
 | false =>
  cases y with
  | own c s n => simp only [h c (by simp [AV.mens])]
  | _ => rfl
theorem stPart_congr {l : List AV} {x : AV} (h : ∀ b ∈ x.mens, B b = B' b) : stPart B l x = stPart B' l x := by
 cases x with
 | ptr b off => simp only [stPart, h b (by simp [AV.mens])]
 | eptr b sz i off => simp only [stPart, h b (by simp [AV.mens])]
 | sptr b sz i j => simp only [stPart, h b (by simp [AV.mens])]
 | mptr b v i j => simp only [stPart, h b (by simp [AV.mens])]
 | _ => rfl
theorem resz_mens {t : TypeId} {v : AV} : (resz S t v).mens = v.mens := by
 rcases resz_or (S := S) t v with e | ⟨n, m, e1, e2⟩
 ·rw [e]
 ·rw [e2, e1]; rfl
theorem mapSet_congr {T : TypeId} {m i x : AV} (h : ∀ b ∈ m.mens, B b = B' b) (hx : ∀ b ∈ x.mens, B b = B' b) : mapSet S B T m i x = mapSet S B' T m i x := by
 have hf : ∀ et k, frzAK B (resz S et x) k = frzAK B' (resz S et x) k := fun et k => frzAK_congr (by rw [resz_mens]; exact hx) k
 unfold mapSet
 cases mapTy S T with
 | none => rfl
 | some q =>
  obtain ⟨kt, et, kd⟩ := q
  cases m with
  | mp b =>
   cases i with
   | d k => simp only [h b (by simp [AV.mens]), hf]
   | _ => rfl
  | _ => rfl
theorem fillE_congr {e size : Nat} {ρ : Operand → AV} : ∀ (ps : List (Nat × Operand)) (es : List D) (us : List (Nat × Option Bx)) (k : List D → List (Nat × Option Bx) → Res),
 (∀ p ∈ ps, ∀ b ∈ (ρ p.2).mens, B b = B' b) → fillE S B e size ρ es ps us k = fillE S B' e size ρ es ps us k
 | [], es, us, k, _ => rfl
 |(i, x) :: ps, es, us, k, h => by
  have ih := fun es us => fillE_congr (ρ := ρ) (e := e) (size := size) ps es us k fun p hp => h p (List.mem_cons_of_mem _ hp)
  simp only [fillE]
  rw [frzAK_congr (B := B) (B' := B') (by rw [resz_mens]; exact h (i, x) List.mem_cons_self)]
  simp only [ih]
theorem fillM_congr {dr : Bool} {ie n : Nat} {ρ : Operand → AV} {ps : List (Nat × Operand)} (h : ∀ p ∈ ps, ∀ b ∈ (ρ p.2).mens, B b = B' b) : fillM B dr ie ρ n ps = fillM B' dr ie ρ n ps := by
 unfold fillM
 split
 ·rename_i x
  have hx := h (0, x) List.mem_cons_self
  cases hv : ρ x with
  | own c s m => rw [hv] at hx; simp only [hx c (by simp [AV.mens])]
  | _ => rfl
 ·rfl
theorem mem_opndMens {ρ : Operand → AV} {b : Nat} : ∀ {l : List Operand} {x : Operand}, x ∈ l → b ∈ (ρ x).mens → b ∈ opndMens ρ l
 | y :: l, x, hx, hb => by
  simp only [opndMens, List.mem_append]
  cases hx with
  | head => exact .inl hb
  | tail _ hx => exact .inr (mem_opndMens hx hb)
theorem handL_congr : ∀ (f : Nat) (todo : List Nat) (acc : List (Nat × Bx)), (∀ b ∈ handV B f todo acc, B b = B' b) → handL B f todo acc = handL B' f todo acc ∧ handV B f todo acc = handV B' f todo acc
 | 0, _, _, _ => ⟨rfl, rfl⟩
 | _ + 1, [], _, _ => ⟨rfl, rfl⟩
 | f + 1, b :: r, acc, h => by
  have hb := h b (by simp [handV])
  simp only [handL, handV]
  rw [← hb]
  cases ha : lk acc b with
  | some y =>
   obtain ⟨h1, h2⟩ := handL_congr f r acc fun c hc => h c (by simp [handV, ha, hc])
   exact ⟨h1, by simp only [h2]⟩
  | none =>
   cases hB : B b with
   | some x =>
    obtain ⟨h1, h2⟩ := handL_congr f (x.mens ++ r) ((b, x) :: acc) fun c hc => h c (by simp only [handV, ha, hB]; exact List.mem_cons_of_mem _ hc)
    exact ⟨h1, by simp only [h2]⟩
   | none =>
    obtain ⟨h1, h2⟩ := handL_congr f r acc fun c hc => h c (by simp only [handV, ha, hB]; exact List.mem_cons_of_mem _ hc)
    exact ⟨h1, by simp only [h2]⟩
theorem mensA_app : ∀ (xs ys : List AV), mensA (xs ++ ys) = mensA xs ++ mensA ys
 | [], ys => rfl
 | x :: xs, ys => by simp [mensA, mensA_app xs ys]
theorem mensA_d : ∀ (l : List D), mensA (l.map .d) = []
 | [] => rfl
 | x :: l => by simp [mensA, mensA_d l, AV.mens]
theorem mensA_cap : ∀ (l : List Cap), mensA (capAV l) = capMens l
 | [] => rfl
 | .box b :: l => by simp [capAV, mensA, capMens, mensA_cap l, AV.mens]
 | .dat x :: l => by simp [capAV, mensA, capMens, mensA_cap l, AV.mens]
theorem mensA_zip {ρ : Operand → AV} : ∀ (xs : List Operand) (ts : List TypeId), xs.length = ts.length → mensA (zipResz S (xs.map ρ) ts) = opndMens ρ xs
 | [], [], _ => rfl
 | [], _ :: _, h => by cases h
 | _ :: _, [], h => by cases h
 | x :: xs, t :: ts, h => by simp [zipResz, mensA, opndMens, resz_mens, mensA_zip xs ts (by simpa using h)]

theorem handV_iter {b m n : Nat} {seen : List Nat} {f : Nat} (h : B b = some (.iter (some m) n seen)) : b ∈ handV B (f + 2) [b] [] ∧ m ∈ handV B (f + 2) [b] [] := by
 refine ⟨by simp [handV], ?_⟩
 by_cases e : m = b
 ·subst e; simp [handV]
 ·simp only [handV, lk, h, Bx.mens]
  have : Nat.beq b m = false := by
   rw [Bool.eq_false_iff]; intro hb; exact e (Nat.eq_of_beq_eq_true hb).symm
  simp [handV, lk, this]
theorem eff_congrB {dr : Bool} (o : Oper) (ρ : Operand → AV) (h : ∀ b ∈ readsOf o ρ B, B b = B' b) : eff S dr o ρ B = eff S dr o ρ B' := by
 obtain ⟨dst, op, type, pos, after, guard⟩ := o
 cases op with
 | load t x =>
  have hx : ∀ b ∈ (ρ x).mens, B b = B' b := fun b hb => h b (mem_opndMens (x := x) (by simp [Op.operands]) hb)
  simp only [eff]
  cases hv : ρ x with
  | ptr b off => rw [hv] at hx; simp only [hx b (by simp [AV.mens])]
  | eptr b sz i off => rw [hv] at hx; simp only [hx b (by simp [AV.mens])]
  | sptr b sz i j => rw [hv] at hx; simp only [hx b (by simp [AV.mens])]
  | mptr b v i j => rw [hv] at hx; simp only [hx b (by simp [AV.mens])]
  | d y => cases y <;> rfl
  | _ => rfl
 | store t x y =>
  have hx : ∀ b ∈ (ρ x).mens, B b = B' b := fun b hb => h b (mem_opndMens (x := x) (by simp [Op.operands]) hb)
  have hy : ∀ b ∈ (ρ y).mens, B b = B' b := fun b hb => h b (mem_opndMens (x := y) (by simp [Op.operands]) hb)
  simp only [eff, matAt_congr hx, stBig_congr hx, stPart_congr hx, fun ti T p => stMat_congr (ti := ti) (T := T) (q := p) hy]
 | indexAddr t x i =>
  have hx : ∀ b ∈ (ρ x).mens, B b = B' b := fun b hb => h b (mem_opndMens (x := x) (by simp [Op.operands]) hb)
  simp only [eff]
  cases S t with
  | none => rfl
  | some ti =>
   obtain ⟨und, sz, by', z⟩ := ti
   cases ρ i with
   | d y =>
    cases y with
    | int k n =>
     cases hv : ρ x with
     | own b sz n =>
      rw [hv] at hx
      have hb := hx b (by simp [AV.mens])
      cases und <;> first
       | rfl
       | simp only [hb]
     | view b sz lo hi =>
      rw [hv] at hx
      have hb := hx b (by simp [AV.mens])
      cases und <;> first
       | rfl
       | simp only [hb]
     | sub b v i =>
      rw [hv] at hx
      have hb := hx b (by simp [AV.mens])
      cases und <;> first
       | rfl
       | simp only [hb]
     | ptr b off =>
      rw [hv] at hx
      have hb := hx b (by simp [AV.mens])
      cases und <;> first
       | rfl
       | simp only [hb]
     | d y => cases y <;> cases und <;> rfl
     | _ => cases und <;> rfl
    | _ => rfl
   | _ => rfl
 | convert s t x =>
  have hx : ∀ b ∈ (ρ x).mens, B b = B' b := fun b hb => h b (mem_opndMens (x := x) (by simp [Op.operands]) hb)
  simp only [eff]
  cases S s with
  | none => rfl
  | some si =>
   cases S t with
   | none => rfl
   | some ti =>
    cases hv : ρ x with
    | own b sz n => rw [hv] at hx; simp only [hx b (by simp [AV.mens])]
    | d y => cases y <;> rfl
    | _ => rfl
 | slice t x lo hi mx =>
  have hx : ∀ b ∈ (ρ x).mens, B b = B' b := fun b hb => h b (mem_opndMens (x := x) (by simp [Op.operands]) hb)
  simp only [eff]
  cases S t with
  | none => rfl
  | some ti =>
   obtain ⟨und, sz, by', z⟩ := ti
   cases mx with
   | some m => rfl
   | none =>
    cases hv : ρ x with
    | own b sz n =>
     rw [hv] at hx
     have hb := hx b (by simp [AV.mens])
     cases und <;> first
      | rfl
      | simp only [hb]
    | ptr b off =>
     rw [hv] at hx
     have hb := hx b (by simp [AV.mens])
     cases und <;> cases off <;> first
      | rfl
      | simp only [hb]
    | d y => cases y <;> cases und <;> rfl
    | _ => cases und <;> rfl
 | lookup t x i ok =>
  have hx : ∀ b ∈ (ρ x).mens, B b = B' b := fun b hb => h b (mem_opndMens (x := x) (by simp [Op.operands]) hb)
  simp only [eff]
  cases mapTy S t with
  | none => rfl
  | some q =>
   obtain ⟨kt, et, kd⟩ := q
   cases hv : ρ x with
   | mp b =>
    rw [hv] at hx
    cases ρ i with
    | d k => simp only [hx b (by simp [AV.mens])]
    | _ => rfl
   | _ => rfl
 | makeMap t r => cases r <;> rfl
 | range t x =>
  have hx : ∀ b ∈ (ρ x).mens, B b = B' b := fun b hb => h b (mem_opndMens (x := x) (by simp [Op.operands]) hb)
  simp only [eff]
  cases dst with
  | none => rfl
  | some s =>
   cases mapTy S t with
   | none => rfl
   | some q =>
    cases hv : ρ x with
    | mp b => rw [hv] at hx; simp only [hx b (by simp [AV.mens])]
    | _ => rfl
 | next x str =>
  have h' : ∀ b ∈ opndMens ρ [x] ++ handV B 200 (opndMens ρ [x]) [], B b = B' b := h
  simp only [eff]
  cases str with
  | true => rfl
  | false =>
   cases hv : ρ x with
   | ptr b off =>
    have e : opndMens ρ [x] = [b] := by simp [opndMens, hv, AV.mens]
    rw [e] at h'
    have hb : B b = B' b := h' b (by simp)
    cases off with
    | zero =>
     simp only
     rw [← hb]
     cases hB : B b with
     | none => rfl
     | some y =>
      cases y with
      | iter m n seen =>
       cases m with
       | none => rfl
       | some m => simp only [h' m (List.mem_append_right _ (handV_iter (f := 198) hB).2)]
      | _ => rfl
    | succ k => rfl
   | _ => rfl
 | entry x =>
  have h' : ∀ b ∈ opndMens ρ [x] ++ handV B 200 (opndMens ρ [x]) [], B b = B' b := h
  simp only [eff]
  cases hv : ρ x with
  | ptr b off =>
   have e : opndMens ρ [x] = [b] := by simp [opndMens, hv, AV.mens]
   rw [e] at h'
   have hb : B b = B' b := h' b (by simp)
   cases off with
   | zero =>
    simp only
    rw [← hb]
    cases hB : B b with
    | none => rfl
    | some y =>
     cases y with
     | iter m n seen =>
      cases m with
      | none => rfl
      | some m =>
       cases seen with
       | nil => rfl
       | cons j r => simp only [h' m (List.mem_append_right _ (handV_iter (f := 198) hB).2)]
     | _ => rfl
   | succ k => rfl
  | _ => rfl
 | mapUpdate t m i x =>
  have hm : ∀ b ∈ (ρ m).mens, B b = B' b := fun b hb => h b (mem_opndMens (x := m) (by simp [Op.operands]) hb)
  have hx : ∀ b ∈ (ρ x).mens, B b = B' b := fun b hb => h b (mem_opndMens (x := x) (by simp [Op.operands]) hb)
  simp only [eff, mapSet_congr hm hx]
 | insert t m i x =>
  have hm : ∀ b ∈ (ρ m).mens, B b = B' b := fun b hb => h b (mem_opndMens (x := m) (by simp [Op.operands]) hb)
  have hx : ∀ b ∈ (ρ x).mens, B b = B' b := fun b hb => h b (mem_opndMens (x := x) (by simp [Op.operands]) hb)
  simp only [eff, mapSet_congr hm hx]
 | buildSlice t n ps =>
  have hx : ∀ p ∈ ps.toList, ∀ b ∈ (ρ p.2).mens, B b = B' b := fun p hp b hb => h b (mem_opndMens (x := p.2) (by simp [Op.operands]; exact ⟨_, by simpa using hp⟩) hb)
  simp only [eff, fillE_congr ps.toList _ _ _ hx, fun ie => fillM_congr (dr := dr) (ie := ie) (n := n) hx]
 | call c =>
  obtain ⟨callee, args, argTypes⟩ := c
  cases callee with
  | invoke => rfl
  | value f =>
   have hr : ∀ b ∈ opndMens ρ (f :: args.toList) ++ handV B 200 (opndMens ρ args.toList ++ (ρ f).mens) [], B b = B' b := h
   have hx : ∀ x ∈ args.toList, ∀ b ∈ (ρ x).mens, B b = B' b := fun x hx b hb => hr b (List.mem_append_left _ (mem_opndMens (x := x) (List.mem_cons_of_mem _ hx) hb))
   have hf : ∀ b ∈ (ρ f).mens, B b = B' b := fun b hb => hr b (List.mem_append_left _ (mem_opndMens (x := f) List.mem_cons_self hb))
   have hz : ∀ v ∈ zipResz S (args.toList.map ρ) argTypes.toList, ∀ b ∈ v.mens, B b = B' b := by
    intro v hv b hb
    obtain ⟨j, hj⟩ := List.getElem?_of_mem hv
    obtain ⟨t, x, hx1, rfl⟩ := zipResz_get _ _ j v hj
    rw [resz_mens] at hb
    have := List.mem_of_getElem? hx1
    simp only [List.mem_map] at this
    obtain ⟨y, hy, rfl⟩ := this
    exact hx y hy b hb
   have hh := (handL_congr 200 (opndMens ρ args.toList ++ (ρ f).mens) [] fun b hb => hr b (List.mem_append_right _ hb)).1
   simp only [eff]
   cases hv : ρ f with
   | d y =>
    cases y with
    | fn g caps =>
     simp only
     cases hl : Nat.beq args.size argTypes.size with
     | false => rfl
     | true =>
      have hl := Nat.eq_of_beq_eq_true hl
      simp only [frzALK_congr hz]
      congr 1
      unfold callXOf handed
      rw [mensA_app, mensA_d, List.append_nil, mensA_zip _ _ (by simpa using hl)]
      rw [hv] at hh
      simp only [AV.mens, List.append_nil] at hh
      rw [hh]
    | _ => rfl
   | fnv g caps =>
    simp only
    cases hl : Nat.beq args.size argTypes.size with
    | false => rfl
    | true =>
     have hl := Nat.eq_of_beq_eq_true hl
     rw [hv] at hf hh
     simp only [frzALK_congr hz, frzCap_congr hf]
     congr 1
     unfold callXOf handed
     rw [mensA_app, mensA_cap, mensA_zip _ _ (by simpa using hl)]
     simp only [AV.mens] at hh
     rw [hh]
   | _ => rfl
  | builtin bi =>
   have hx : ∀ x ∈ args.toList, ∀ b ∈ (ρ x).mens, B b = B' b := by
    intro x hx b hb
    exact h b (mem_opndMens (x := x) (by simp [Op.operands, Call.operands]; exact (by simpa using hx)) hb)
   have hm : ∀ {v : AV} {l : List AV}, args.toList.map ρ = l → v ∈ l → ∀ b ∈ v.mens, B b = B' b := by
    intro v l he hv b hb
    rw [← he] at hv
    simp only [List.mem_map] at hv
    obtain ⟨y, hy, rfl⟩ := hv
    exact hx y hy b hb
   cases bi with
   | clear =>
    simp only [eff]
    split
    ·rename_i v t _ he _
     exact clearE_congr (hm he (by simp))
    ·rfl
   | copy =>
    simp only [eff]
    split
    ·rename_i x y t _ he _
     exact copyE_congr (hm he (by simp)) (hm he (by simp))
    ·rfl
   | append =>
    simp only [eff]
    split
    ·rename_i s x _ _ he _
     have hs : ∀ b ∈ s.mens, B b = B' b := fun b hb => by
      have : s ∈ args.toList.map ρ := by rw [he]; simp
      simp only [List.mem_map] at this
      obtain ⟨y, hy, rfl⟩ := this
      exact hx y hy b hb
     have hs' : ∀ b ∈ x.mens, B b = B' b := fun b hb => by
      have : x ∈ args.toList.map ρ := by rw [he]; simp
      simp only [List.mem_map] at this
      obtain ⟨y, hy, rfl⟩ := this
      exact hx y hy b hb
     simp only [viewE_congr hs, oldK_congr hs, srcK_congr hs', srcM_congr hs', fun c et ie => oldM_congr (dr := dr) (c := c) (et := et) (ie := ie) hs]
    ·rfl
   | len =>
    simp only [eff]
    split
    ·rename_i v t _ he _
     have hs : ∀ b ∈ v.mens, B b = B' b := fun b hb => by
      have : v ∈ args.toList.map ρ := by rw [he]; simp
      simp only [List.mem_map] at this
      obtain ⟨y, hy, rfl⟩ := this
      exact hx y hy b hb
     cases S t with
     | none => rfl
     | some ti =>
      obtain ⟨und, sz, by', z⟩ := ti
      cases v with
      | own b sz n =>
       have hb := hs b (by simp [AV.mens])
       cases und <;> first
        | rfl
        | simp only [hb]
      | sub b v i =>
       have hb := hs b (by simp [AV.mens])
       cases und <;> first
        | rfl
        | simp only [hb]
      | mp b =>
       have hb := hs b (by simp [AV.mens])
       cases und <;> first
        | rfl
        | simp only [hb]
      | d y => cases y <;> cases und <;> rfl
      | _ => cases und <;> rfl
    ·rfl
   | _ => rfl
 | _ => rfl
theorem reads_congr (o : Oper) (ρ : Operand → AV) (h : ∀ b ∈ readsOf o ρ B, B b = B' b) : readsOf o ρ B = readsOf o ρ B' := by
 obtain ⟨dst, op, type, pos, after, guard⟩ := o
 cases op with
 | call c =>
  obtain ⟨callee, args, argTypes⟩ := c
  cases callee with
  | value f =>
   have hr : ∀ b ∈ opndMens ρ (f :: args.toList) ++ handV B 200 (opndMens ρ args.toList ++ (ρ f).mens) [], B b = B' b := h
   have hh := (handL_congr 200 (opndMens ρ args.toList ++ (ρ f).mens) [] fun b hb => hr b (List.mem_append_right _ hb)).2
   show _ ++ _ = _ ++ _
   rw [hh]
  | _ => rfl
 | next x str =>
  have hr : ∀ b ∈ opndMens ρ [x] ++ handV B 200 (opndMens ρ [x]) [], B b = B' b := h
  have hh := (handL_congr 200 (opndMens ρ [x]) [] fun b hb => hr b (List.mem_append_right _ hb)).2
  show _ ++ _ = _ ++ _
  rw [hh]
 | entry x =>
  have hr : ∀ b ∈ opndMens ρ [x] ++ handV B 200 (opndMens ρ [x]) [], B b = B' b := h
  have hh := (handL_congr 200 (opndMens ρ [x]) [] fun b hb => hr b (List.mem_append_right _ hb)).2
  show _ ++ _ = _ ++ _
  rw [hh]
 | _ => rfl
end
end Go.Vm
end

section
/- Regions that draw their order, first part: two operations that do not touch may change places. -/
namespace Go.Vm
section
variable {P : Program} {S : Tys}
theorem zipResz_congr {ρ ρ' : Operand → AV} {l : List Operand} (h : ∀ x ∈ l, ρ x = ρ' x) : l.map ρ = l.map ρ' := List.map_congr_left h
theorem fillL_congr {ρ ρ' : Operand → AV} {t : TypeId} : ∀ (ps : List (Nat × Operand)) (cs : List AV), (∀ p ∈ ps, ρ p.2 = ρ' p.2) → fillL S t ρ cs ps = fillL S t ρ' cs ps
 | [], _, _ => rfl
 |(i, x) :: ps, cs, h => by
  have h1 : ρ x = ρ' x := h (i, x) List.mem_cons_self
  have ih := fun cs => fillL_congr (t := t) ps cs fun p hp => h p (List.mem_cons_of_mem _ hp)
  simp only [fillL, h1, ih]
theorem fillArr_congr {ρ ρ' : Operand → AV} {e : TypeId} {sz : Nat} : ∀ (ps : List (Nat × Operand)) (cs : List AV), (∀ p ∈ ps, ρ p.2 = ρ' p.2) → fillArr S e sz ρ cs ps = fillArr S e sz ρ' cs ps
 | [], _, _ => rfl
 |(i, x) :: ps, cs, h => by
  have h1 : ρ x = ρ' x := h (i, x) List.mem_cons_self
  have ih := fun cs => fillArr_congr (e := e) (sz := sz) ps cs fun p hp => h p (List.mem_cons_of_mem _ hp)
  simp only [fillArr, h1, ih]
theorem fillE_congrR {ρ ρ' : Operand → AV} {B : Nat → Option Bx} {e size : Nat} : ∀ (ps : List (Nat × Operand)) (es : List D) (us : List (Nat × Option Bx)) (k : List D → List (Nat × Option Bx) → Res),
 (∀ p ∈ ps, ρ p.2 = ρ' p.2) → fillE S B e size ρ es ps us k = fillE S B e size ρ' es ps us k
 | [], _, _, _, _ => rfl
 |(i, x) :: ps, es, us, k, h => by
  have h1 : ρ x = ρ' x := h (i, x) List.mem_cons_self
  have ih := fun es us => fillE_congrR (B := B) (e := e) (size := size) ps es us k fun p hp => h p (List.mem_cons_of_mem _ hp)
  simp only [fillE, h1, ih]
theorem loI_congr {ρ ρ' : Operand → AV} {x : Option Operand} (h : ∀ y ∈ x.toArray, ρ y = ρ' y) : x.map ρ = x.map ρ' := by
 cases x with
 | none => rfl
 | some y => simp only [Option.map_some, h y (by simp)]

theorem eff_congrR {dr : Bool} {o : Oper} {ρ ρ' : Operand → AV} {B : Nat → Option Bx} (h : ∀ x ∈ o.op.operands.toList, ρ x = ρ' x) : eff S dr o ρ B = eff S dr o ρ' B := by
 obtain ⟨dst, op, type, pos, after, guard⟩ := o
 cases op with
 | build t ps =>
  have hp : ∀ p ∈ ps.toList, ρ p.2 = ρ' p.2 := fun p hp => h p.2 (by simp [Op.operands]; exact ⟨p.1, by simpa using hp⟩)
  simp only [eff, fillL_congr _ _ hp, fillArr_congr _ _ hp]
 | buildSlice t n ps =>
  have hp : ∀ p ∈ ps.toList, ρ p.2 = ρ' p.2 := fun p hp => h p.2 (by simp [Op.operands]; exact ⟨p.1, by simpa using hp⟩)
  have hm : ∀ ie, fillM B dr ie ρ n ps.toList = fillM B dr ie ρ' n ps.toList := by
   intro ie
   unfold fillM
   split
   ·rename_i x hps
    rw [hp (0, x) (by rw [hps]; exact List.mem_cons_self)]
   ·rfl
  simp only [eff, fillE_congrR _ _ _ _ hp, hm]
 | makeMap t r => cases r <;> rfl
 | makeFunc fn first caps =>
  have hp : caps.toList.map ρ = caps.toList.map ρ' := zipResz_congr fun x hx => h x (by simp [Op.operands]; exact .inr (by simpa using hx))
  simp only [eff, hp]
 | slice t x lo hi mx =>
  have h1 : ρ x = ρ' x := h x (by simp [Op.operands])
  have h2 : lo.map ρ = lo.map ρ' := loI_congr fun y hy => h y (by simp [Op.operands]; simp at hy; simp [hy])
  have h3 : hi.map ρ = hi.map ρ' := loI_congr fun y hy => h y (by simp [Op.operands]; simp at hy; simp [hy])
  simp only [eff, h1, h2, h3]
 | call c =>
  obtain ⟨callee, args, argTypes⟩ := c
  have hp : args.toList.map ρ = args.toList.map ρ' := zipResz_congr fun x hx => h x (by simp [Op.operands, Call.operands]; exact .inr (by simpa using hx))
  cases callee with
  | value f =>
   have hf : ρ f = ρ' f := h f (by simp [Op.operands, Call.operands])
   simp only [eff, hp, hf]
  | invoke => rfl
  | builtin b => cases b <;> first | rfl | simp only [eff, hp]
 | _ => simp only [eff] <;> simp_all [Op.operands]

def wantF (all : List Oper) (o : Oper) (T : Nat → AV) : Go3 := match o.guard with
 | none => .go
 | some (j, want) => match dstOf all j with
  | none => .skip
  | some t => match T t with
   | .d (.bool b) => match b, want with
    | true, true => .go
    | false, false => .go
    | true, false => .skip
    | false, true => .skip
   | .undef => .skip
   | _ => .stop
theorem wantA_eq (all : List Oper) (o : Oper) (σ : St) : wantedA all o σ = wantF all o σ.get := rfl

def SrcF (P : Program) (S : Tys) (all : List Oper) (o : Oper) (T : Nat → AV) (B : Nat → Option Bx) (v : AV) (ups : List (Nat × Option Bx)) : Prop :=
 (wantF all o T = .go ∧ Out P none (eff S true o (evA T) B) v ups) ∨ (wantF all o T = .skip ∧ v = .undef ∧ ups = [])

theorem mem_tmps {l : List Operand} {t : Nat} (h : Operand.tmp t ∈ l) : t ∈ looksL.tmpsOf l := by
 induction l with
 | nil => cases h
 | cons x l ih =>
  cases h with
  | head => simp [looksL.tmpsOf]
  | tail _ h => cases x <;> simp [looksL.tmpsOf, ih h]
theorem src_congr {all : List Oper} {o : Oper} {T T' : Nat → AV} {B B' : Nat → Option Bx} {v : AV} {ups} (hT : ∀ t ∈ looksL all o, T' t = T t)
 (hB : ∀ b ∈ readsOf o (evA T) B, B' b = B b) (h : SrcF P S all o T B v ups) : SrcF P S all o T' B' v ups := by
 have hw : wantF all o T' = wantF all o T := by
  unfold wantF
  cases hg : o.guard with
  | none => rfl
  | some jw =>
   obtain ⟨j, want⟩ := jw
   cases hd : dstOf all j with
   | none => simp only [hd]
   | some t => simp only [hd, hT t (by simp [looksL, hg, hd])]
 have he : ∀ x ∈ o.op.operands.toList, evA T' x = evA T x := by
  intro x hx
  cases x with
  | tmp t => exact hT t (by simp [looksL]; exact .inl (mem_tmps hx))
  | _ => rfl
 have heff : eff S true o (evA T') B' = eff S true o (evA T) B := by
  rw [eff_congrR (S := S) (B := B') he]
  exact (eff_congrB o _ fun b hb => (hB b hb).symm).symm
 unfold SrcF at h ⊢
 rw [hw, heff]
 exact h

def apB : List (Nat × Option Bx) → (Nat → Option Bx) → Nat → Option Bx
 | [], B => B
 |(b, some x) :: r, B => apB r (upd B b (some x))
 |(_, none) :: r, B => apB r B

theorem reads_congrR {o : Oper} {ρ ρ' : Operand → AV} {B : Nat → Option Bx} (h : ∀ x ∈ o.op.operands.toList, ρ x = ρ' x) : readsOf o ρ B = readsOf o ρ' B := by
 have lst : ∀ l : List Operand, (∀ x ∈ l, ρ x = ρ' x) → opndMens ρ l = opndMens ρ' l := by
  intro l
  induction l with
  | nil => intro _; rfl
  | cons x l ih => intro h; simp only [opndMens, h x List.mem_cons_self, ih fun y hy => h y (List.mem_cons_of_mem _ hy)]
 obtain ⟨dst, op, type, pos, after, guard⟩ := o
 have gen : (match touches op with | false => [] | true => opndMens ρ op.operands.toList) = (match touches op with | false => [] | true => opndMens ρ' op.operands.toList) := by rw [lst _ h]
 cases op with
 | call c =>
  obtain ⟨callee, args, argTypes⟩ := c
  cases callee with
  | value f =>
   have hf : ρ f = ρ' f := h f (by simp [Op.operands, Call.operands])
   have ha : ∀ x ∈ args.toList, ρ x = ρ' x := fun x hx => h x (by simp [Op.operands, Call.operands]; exact .inr (by simpa using hx))
   have h1 := lst _ ha
   have h2 : opndMens ρ (f :: args.toList) = opndMens ρ' (f :: args.toList) := by simp only [opndMens, hf, h1]
   show opndMens ρ (f :: args.toList) ++ handV B 200 (opndMens ρ args.toList ++ (ρ f).mens) [] = opndMens ρ' (f :: args.toList) ++ handV B 200 (opndMens ρ' args.toList ++ (ρ' f).mens) []
   rw [h1, h2, hf]
  | _ => exact gen
 | next x str =>
  show opndMens ρ [x] ++ handV B 200 (opndMens ρ [x]) [] = opndMens ρ' [x] ++ handV B 200 (opndMens ρ' [x]) []
  rw [lst [x] fun y hy => h y (by simpa [Op.operands] using hy)]
 | entry x =>
  show opndMens ρ [x] ++ handV B 200 (opndMens ρ [x]) [] = opndMens ρ' [x] ++ handV B 200 (opndMens ρ' [x]) []
  rw [lst [x] fun y hy => h y (by simpa [Op.operands] using hy)]
 | _ => exact gen

theorem ups_nk {dst : Option Nat} {ups : List (Nat × Option Bx)} {T : Nat → AV} {B : Nat → Option Bx} {T1 : Nat → AV} {B1 : Nat → Option Bx} (h : UpsR dst ups T B T1 B1) (hk : noKill ups = true) : T1 = T ∧ B1 = apB ups B := by
 induction h with
 | nil => exact ⟨rfl, rfl⟩
 | kill => cases hk
 | set _ _ _ _ ih => exact ih hk
 | new _ _ _ _ _ ih => exact ih hk
theorem apB_not {b : Nat} : ∀ {ups : List (Nat × Option Bx)} {B : Nat → Option Bx}, b ∉ Res.keys ups → apB ups B b = B b
 | [], B, _ => rfl
 |(i, some x) :: r, B, h => by
  simp only [Res.keys, List.mem_cons, not_or] at h
  rw [apB, apB_not h.2, upd_ne _ _ h.1]
 |(i, none) :: r, B, h => by
  simp only [Res.keys, List.mem_cons, not_or] at h
  rw [apB, apB_not h.2]
theorem apB_key {b : Nat} : ∀ {ups : List (Nat × Option Bx)} {B B' : Nat → Option Bx}, noKill ups = true → b ∈ Res.keys ups → apB ups B b = apB ups B' b
 | [], B, B', _, h => by cases h
 |(i, none) :: r, B, B', hk, h => by cases hk
 |(i, some x) :: r, B, B', hk, h => by
  simp only [apB]
  by_cases h1 : b ∈ Res.keys r
  ·exact apB_key hk h1
  ·simp only [Res.keys, List.mem_cons] at h
   have : b = i := h.resolve_right h1
   subst this
   rw [apB_not h1, apB_not h1, upd_same, upd_same]
theorem apB_some {b : Nat} : ∀ {ups : List (Nat × Option Bx)} {B : Nat → Option Bx}, B b ≠ none → apB ups B b ≠ none
 | [], B, h => h
 |(i, none) :: r, B, h => apB_some (ups := r) h
 |(i, some x) :: r, B, h => by
  refine apB_some (ups := r) ?_
  by_cases e : b = i
  ·subst e; rw [upd_same]; simp
  ·rw [upd_ne _ _ e]; exact h
theorem ups_old {dst : Option Nat} {ups : List (Nat × Option Bx)} {T : Nat → AV} {B : Nat → Option Bx} {T1 : Nat → AV} {B1 : Nat → Option Bx} (h : UpsR dst ups T B T1 B1) (hk : noKill ups = true) {b : Nat} (hb : B1 b ≠ none) :
 B b ≠ none ∨ b ∈ Res.keys ups := by
 induction h with
 | nil => exact .inl hb
 | kill => cases hk
 | @set i x r T B T' B' _ h1 _ _ ih =>
  rcases ih hk hb with h | h
  ·by_cases e : b = i
   ·subst e; exact .inl h1
   ·rw [upd_ne _ _ e] at h; exact .inl h
  ·exact .inr (List.mem_cons_of_mem _ h)
 | @new i x r T B T' B' h1 _ _ _ _ ih =>
  rcases ih hk hb with h | h
  ·by_cases e : b = i
   ·subst e; exact .inr List.mem_cons_self
   ·rw [upd_ne _ _ e] at h; exact .inl h
  ·exact .inr (List.mem_cons_of_mem _ h)
theorem ups_move {dst : Option Nat} {ups : List (Nat × Option Bx)} {T : Nat → AV} {B : Nat → Option Bx} {T1 : Nat → AV} {B1 : Nat → Option Bx} (h : UpsR dst ups T B T1 B1) (hk : noKill ups = true) :
 ∀ (Ts : Nat → AV) (Bs : Nat → Option Bx), (∀ b ∈ Res.keys ups, (Bs b = none ↔ B b = none)) → (∀ b x, (b, some x) ∈ ups → ∀ b', Bx.men b' x = true → B b' ≠ none → Bs b' ≠ none) →
 UpsR dst ups Ts Bs Ts (apB ups Bs) := by
 induction h with
 | nil => intro Ts Bs _ _; exact .nil _ _
 | kill => cases hk
 | @set i x r T B T' B' h1 h2 h3 _ ih =>
  intro Ts Bs hb hm
  refine .set h1 (fun e => h2 ((hb i (by simp [Res.keys])).1 e)) (fun b' hb' => hm i x List.mem_cons_self b' hb' (h3 b' hb')) (ih hk Ts _ (fun b hbk => ?_) fun b y hy b' hb' hn => ?_)
  ·by_cases e : b = i
   ·subst e; rw [upd_same, upd_same]
   ·rw [upd_ne _ _ e, upd_ne _ _ e]; exact hb b (by simp [Res.keys, hbk])
  ·by_cases e : b' = i
   ·subst e; rw [upd_same]; simp
   ·rw [upd_ne _ _ e] at hn ⊢; exact hm b y (List.mem_cons_of_mem _ hy) b' hb' hn
 | @new i x r T B T' B' h1 h0 h2 h3 _ ih =>
  intro Ts Bs hb hm
  refine .new h1 h0 ((hb i (by simp [Res.keys])).2 h2) (fun b' hb' => hm i x List.mem_cons_self b' hb' (h3 b' hb')) (ih hk Ts _ (fun b hbk => ?_) fun b y hy b' hb' hn => ?_)
  ·by_cases e : b = i
   ·subst e; rw [upd_same, upd_same]
   ·rw [upd_ne _ _ e, upd_ne _ _ e]; exact hb b (by simp [Res.keys, hbk])
  ·by_cases e : b' = i
   ·subst e; rw [upd_same]; simp
   ·rw [upd_ne _ _ e] at hn ⊢; exact hm b y (List.mem_cons_of_mem _ hy) b' hb' hn

def FStep (P : Program) (S : Tys) (N : Nat) (all : List Oper) (o : Oper) (l : Lab) (T : Nat → AV) (B : Nat → Option Bx) (T' : Nat → AV) (B' : Nat → Option Bx) : Prop :=
 ∃ v ups, SrcF P S all o T B v ups ∧ noKill ups = true ∧ UpsR o.dst ups T B T (apB ups B) ∧ PutR N o.dst v T (apB ups B) T' ∧ B' = apB ups B ∧
  (wantF all o T = .go → ∀ b ∈ readsOf o (evA T) B, bitM l.rd b = true) ∧ (∀ b ∈ Res.keys ups, bitM l.wr b = true) ∧ (∀ b ∈ Res.keys ups, B b = none → bitM l.cr b = true) ∧
  (o.dst ≠ none → ∀ b, v.men b = true → bitM l.mt b = true) ∧ (∀ i x, (i, some x) ∈ ups → ∀ b, Bx.men b x = true → bitM l.mt b = true)

theorem memN_iff {x : Nat} : ∀ {l : List Nat}, memN x l = true ↔ x ∈ l
 | [] => by simp [memN]
 | y :: l => by
  simp only [memN, List.mem_cons]
  cases e : Nat.beq x y with
  | true => have := Nat.eq_of_beq_eq_true e; simp [this]
  | false => have := beq_false_ne e; simp [this, memN_iff (l := l)]
theorem beq_iff {a b : Nat} : Nat.beq a b = true ↔ a = b := ⟨Nat.eq_of_beq_eq_true, fun h => by rw [h]; exact Nat.beq_refl b⟩
theorem bitM_iff {m j : Nat} : bitM m j = true ↔ m.testBit j = true := by
 have e1 : Nat.land (Nat.shiftRight m j) 1 = m / 2 ^ j % 2 := by
  have : Nat.land (Nat.shiftRight m j) 1 = (m >>> j) &&& 1 := rfl
  rw [this, Nat.and_one_is_mod, Nat.shiftRight_eq_div_pow]
 unfold bitM
 rw [beq_iff, e1, Nat.testBit_eq_decide_div_mod_eq, decide_eq_true_eq]
theorem bitM_lor {a b j : Nat} : bitM (Nat.lor a b) j = true ↔ bitM a j = true ∨ bitM b j = true := by
 have : Nat.lor a b = a ||| b := rfl
 simp only [bitM_iff, this, Nat.testBit_or, Bool.or_eq_true]
theorem bitM_shift {k j : Nat} : bitM (Nat.shiftLeft 1 k) j = true ↔ j = k := by
 have : Nat.shiftLeft 1 k = 1 <<< k := rfl
 rw [bitM_iff, this, Nat.one_shiftLeft, Nat.testBit_two_pow, decide_eq_true_eq]
 exact eq_comm
theorem bitM_zero {j : Nat} : bitM 0 j = true ↔ False := by
 simp [bitM_iff]
theorem bitM_maskF {j : Nat} : ∀ {l : List Nat} {acc : Nat}, bitM (maskF l acc) j = true ↔ bitM acc j = true ∨ j ∈ l
 | [], acc => by simp [maskF]
 | b :: l, acc => by simp only [maskF, bitM_maskF (l := l), bitM_lor, bitM_shift, List.mem_cons, or_assoc]
theorem bitM_mask {j : Nat} {l : List Nat} : bitM (maskL l) j = true ↔ j ∈ l := by
 simp only [maskL, bitM_maskF, bitM_zero, false_or]
theorem disjM_spec {a b : Nat} (h : disjM a b = true) : ∀ x, bitM a x = true → ¬ bitM b x = true := by
 intro x h1 h2
 have h := beq_iff.1 h
 have e : Nat.land a b = a &&& b := rfl
 rw [e] at h
 have := Nat.testBit_and a b x
 rw [h, bitM_iff.1 h1, bitM_iff.1 h2] at this
 simp at this
theorem okPair_spec {a b : Lab} (h : okPair a b = true) : (∀ x, bitM a.wr x = true → ¬ bitM b.rd x = true) ∧ (∀ x, bitM b.wr x = true → ¬ bitM a.rd x = true) ∧ (∀ x, bitM a.wr x = true → ¬ bitM b.wr x = true) ∧
 (∀ x, bitM a.cr x = true → ¬ bitM b.mt x = true) ∧ (∀ x, bitM b.cr x = true → ¬ bitM a.mt x = true) := by
 unfold okPair at h
 split at h
 ·rename_i h1 h2 h3
  split at h
  ·rename_i h4 h5
   exact ⟨disjM_spec h1, disjM_spec h2, disjM_spec h3, disjM_spec h4, disjM_spec h5⟩
  ·cases h
 ·cases h
theorem apartL_spec {all : List Oper} {x y : Oper} (h : apartL all x y = true) : (∀ d, x.dst = some d → d ∉ looksL all y ∧ y.dst ≠ some d) ∧ (∀ d, y.dst = some d → d ∉ looksL all x) := by
 unfold apartL at h
 rw [Bool.and_eq_true] at h
 obtain ⟨h1, h2⟩ := h
 refine ⟨fun d hd => ?_, fun d hd => ?_⟩
 ·rw [hd] at h1
  simp only at h1
  cases hm : memN d (looksL all y) with
  | true => rw [hm] at h1; cases h1
  | false =>
   rw [hm] at h1
   refine ⟨fun hc => (by rw [memN_iff.2 hc] at hm; cases hm), fun hc => ?_⟩
   rw [hc] at h1
   simp only [Nat.beq_refl] at h1
   cases h1
 ·rw [hd] at h2
  simp only at h2
  intro hc
  rw [memN_iff.2 hc] at h2
  cases h2

theorem put_agree {N : Nat} {dst : Option Nat} {v : AV} {T : Nat → AV} {B : Nat → Option Bx} {T' : Nat → AV} (h : PutR N dst v T B T') {t : Nat} (ht : dst ≠ some t) : T' t = T t := by
 cases dst with
 | none => rw [show T' = T from h]
 | some d =>
  obtain ⟨_, _, rfl⟩ := h
  exact upd_ne _ _ fun e => ht (by rw [e])

theorem swap {N : Nat} {all : List Oper} {o1 o2 : Oper} {l1 l2 : Lab} {T T1 T2 : Nat → AV} {B B1 B2 : Nat → Option Bx} (hap : apartL all o1 o2 = true) (hl : okPair l1 l2 = true)
 (h1 : FStep P S N all o1 l1 T B T1 B1) (h2 : FStep P S N all o2 l2 T1 B1 T2 B2) : ∃ Tm Bm, FStep P S N all o2 l2 T B Tm Bm ∧ FStep P S N all o1 l1 Tm Bm T2 B2 := by
 obtain ⟨a1, a2⟩ := apartL_spec hap
 obtain ⟨p1, p2, p3, p4, p5⟩ := okPair_spec hl
 obtain ⟨v1, u1, s1, k1, ur1, pr1, rfl, rd1, wr1, cr1, mv1, mu1⟩ := h1
 obtain ⟨v2, u2, s2, k2, ur2, pr2, rfl, rd2, wr2, cr2, mv2, mu2⟩ := h2
 have agree1 : ∀ t ∈ looksL all o2, T1 t = T t := fun t ht => put_agree pr1 fun e => (a1 t e).1 ht
 have kk : ∀ b, b ∈ Res.keys u1 → b ∉ Res.keys u2 := fun b hb hb' => p3 b (wr1 b hb) (wr2 b hb')
 have ops2 : ∀ x ∈ o2.op.operands.toList, evA T1 x = evA T x := by
  intro x hx
  cases x with
  | tmp t => exact agree1 t (by simp [looksL]; exact .inl (mem_tmps hx))
  | _ => rfl
 have want2 : wantF all o2 T = wantF all o2 T1 := by
  unfold wantF
  cases hg : o2.guard with
  | none => rfl
  | some jw =>
   obtain ⟨j, want⟩ := jw
   cases hd : dstOf all j with
   | none => simp only [hd]
   | some t => simp only [hd, agree1 t (by simp [looksL, hg, hd])]
 -- if an operation is skipped, nothing of it reads
 have s2' : SrcF P S all o2 T B v2 u2 := by
  rcases s2 with ⟨hw, ho⟩ | ⟨hw, hv, hu⟩
  ·refine src_congr (T := T1) (B := apB u1 B) (fun t ht => (agree1 t ht).symm) (fun b hb => ?_) (.inl ⟨hw, ho⟩)
   exact (apB_not fun hk => p1 b (wr1 b hk) (rd2 hw b hb)).symm
  ·exact .inr ⟨want2.trans hw, hv, hu⟩
 have reads2 : wantF all o2 T1 = .go → readsOf o2 (evA T) B = readsOf o2 (evA T1) (apB u1 B) := by
  intro hw
  rw [reads_congrR (B := apB u1 B) ops2, reads_congr o2 (evA T) (B := apB u1 B) (B' := B) fun b hb => ?_]
  rw [← reads_congrR (B := apB u1 B) ops2] at hb
  exact apB_not fun hk => p1 b (wr1 b hk) (rd2 hw b hb)
 have old1 : ∀ b, bitM l2.mt b = true → apB u1 B b ≠ none → B b ≠ none := by
  intro b hb hn
  rcases ups_old ur1 k1 hn with h | h
  ·exact h
  ·by_cases hk : b ∈ Res.keys u1
   ·cases hBb : B b with
    | some y => simp
    | none => exact absurd hb (p4 b (cr1 b hk hBb))
   ·rwa [apB_not hk] at hn
 have ur2' : UpsR o2.dst u2 T B T (apB u2 B) := ups_move ur2 k2 T B (fun b hb => by rw [apB_not fun hk => kk b hk hb]) fun b x hx b' hb' hn => old1 b' (mu2 b x hx b' hb') hn
 have put2 : ∃ Tm, PutR N o2.dst v2 T (apB u2 B) Tm ∧ ∀ t, o2.dst ≠ some t → Tm t = T t := by
  cases hd : o2.dst with
  | none => exact ⟨T, rfl, fun _ _ => rfl⟩
  | some d =>
   rw [hd] at pr2
   refine ⟨upd T d v2, ⟨pr2.1, fun b hb => ?_, rfl⟩, fun t ht => upd_ne _ _ fun e => ht (by rw [e])⟩
   by_cases hk : b ∈ Res.keys u2
   ·rw [apB_key (B' := apB u1 B) k2 hk]; exact pr2.2.1 b hb
   ·have h := pr2.2.1 b hb
    rw [apB_not hk] at h ⊢
    exact old1 b (mv2 (by rw [hd]; simp) b hb) h
 obtain ⟨Tm, pm, hTm⟩ := put2
 have agree2 : ∀ t ∈ looksL all o1, Tm t = T t := fun t ht => hTm t fun e => a2 t e ht
 have ops1 : ∀ x ∈ o1.op.operands.toList, evA Tm x = evA T x := by
  intro x hx
  cases x with
  | tmp t => exact agree2 t (by simp [looksL]; exact .inl (mem_tmps hx))
  | _ => rfl
 have want1 : wantF all o1 Tm = wantF all o1 T := by
  unfold wantF
  cases hg : o1.guard with
  | none => rfl
  | some jw =>
   obtain ⟨j, want⟩ := jw
   cases hd : dstOf all j with
   | none => simp only [hd]
   | some t => simp only [hd, agree2 t (by simp [looksL, hg, hd])]
 have s1' : SrcF P S all o1 Tm (apB u2 B) v1 u1 := by
  rcases s1 with ⟨hw, ho⟩ | ⟨hw, hv, hu⟩
  ·refine src_congr (T := T) (B := B) agree2 (fun b hb => ?_) (.inl ⟨hw, ho⟩)
   exact apB_not fun hk => p2 b (wr2 b hk) (rd1 hw b hb)
  ·exact .inr ⟨want1.trans hw, hv, hu⟩
 have reads1 : wantF all o1 T = .go → readsOf o1 (evA Tm) (apB u2 B) = readsOf o1 (evA T) B := by
  intro hw
  rw [reads_congrR (B := apB u2 B) ops1]
  exact (reads_congr o1 (evA T) (B := B) (B' := apB u2 B) fun b hb => (apB_not fun hk => p2 b (wr2 b hk) (rd1 hw b hb)).symm).symm
 have ur1' : UpsR o1.dst u1 Tm (apB u2 B) Tm (apB u1 (apB u2 B)) := ups_move ur1 k1 Tm (apB u2 B) (fun b hb => by rw [apB_not (kk b hb)]) fun b x hx b' hb' hn => apB_some hn
 have hB : apB u1 (apB u2 B) = apB u2 (apB u1 B) := by
  funext b
  by_cases h1 : b ∈ Res.keys u1
  ·rw [apB_not (ups := u2) (kk b h1), apB_key (B' := B) k1 h1]
  ·rw [apB_not h1]
   by_cases h2 : b ∈ Res.keys u2
   ·exact apB_key k2 h2
   ·rw [apB_not h2, apB_not h2, apB_not h1]
 have put1 : PutR N o1.dst v1 Tm (apB u1 (apB u2 B)) T2 := by
  cases hd1 : o1.dst with
  | none =>
   rw [hd1] at pr1
   rw [show T1 = T from pr1] at pr2
   show T2 = Tm
   cases hd2 : o2.dst with
   | none => rw [hd2] at pr2 pm; rw [show T2 = T from pr2, show Tm = T from pm]
   | some d2 => rw [hd2] at pr2 pm; rw [pr2.2.2, pm.2.2]
  | some d1 =>
   rw [hd1] at pr1
   refine ⟨pr1.1, fun b hb => ?_, ?_⟩
   ·have h := pr1.2.1 b hb
    by_cases hk : b ∈ Res.keys u1
    ·rw [apB_key (B' := B) k1 hk]; exact h
    ·rw [apB_not hk] at h ⊢
     exact apB_some h
   ·have e1 := pr1.2.2
    cases hd2 : o2.dst with
    | none =>
     rw [hd2] at pr2 pm
     rw [show T2 = T1 from pr2, show Tm = T from pm, e1]
    | some d2 =>
     rw [hd2] at pr2 pm
     rw [pr2.2.2, pm.2.2, e1]
     have hne : d1 ≠ d2 := fun e => (a1 d1 hd1).2 (by rw [hd2, e])
     funext t
     by_cases g1 : t = d1
     ·subst g1; rw [upd_ne _ _ hne, upd_same, upd_same]
     ·rw [upd_ne _ _ g1]
      by_cases g2 : t = d2
      ·subst g2; rw [upd_same, upd_same]
      ·rw [upd_ne _ _ g2, upd_ne _ _ g2, upd_ne _ _ g1]
 refine ⟨Tm, apB u2 B, ⟨v2, u2, s2', k2, ur2', pm, rfl, fun hw b hb => ?_, wr2, fun b hk hn => cr2 b hk (by rw [apB_not fun h => kk b h hk]; exact hn), mv2, mu2⟩,
  ⟨v1, u1, s1', k1, ur1', put1, hB.symm, fun hw b hb => ?_, wr1, fun b hk hn => cr1 b hk (by rwa [apB_not (kk b hk)] at hn), mv1, mu1⟩⟩
 ·rw [reads2 (want2 ▸ hw)] at hb
  exact rd2 (want2 ▸ hw) b hb
 ·rw [reads1 (want1 ▸ hw)] at hb
  exact rd1 (want1 ▸ hw) b hb
end
end Go.Vm
end
