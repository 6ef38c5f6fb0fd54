/- Texts VmS VmT VmU VmV VmX VmY, joined. -/
import Derived.Test.YtokamphljnlkpaaGreatDoorMgG
section
/- Regions that draw their order, second part: one walk in the order of the text stands for every order. -/
namespace Go.Vm
open Go.RowKit (Below)
section
variable {P : Program} {S : Tys} {N : Nat} {all : List Oper}
inductive Run (P : Program) (S : Tys) (N : Nat) (all : List Oper) : List (Nat × Oper × Lab) → (Nat → AV) → (Nat → Option Bx) → (Nat → AV) → (Nat → Option Bx) → Prop
 | nil (T B) : Run P S N all [] T B T B
 | cons {x r T B T1 B1 T2 B2} (h : FStep P S N all x.2.1 x.2.2 T B T1 B1) (k : Run P S N all r T1 B1 T2 B2) : Run P S N all (x :: r) T B T2 B2

theorem Run.front {x : Nat × Oper × Lab} {post : List (Nat × Oper × Lab)} : ∀ {pre : List (Nat × Oper × Lab)} {T B T' B'},
 (∀ p ∈ pre, apartL all p.2.1 x.2.1 = true ∧ okPair p.2.2 x.2.2 = true) → Run P S N all (pre ++ x :: post) T B T' B' → Run P S N all (x :: (pre ++ post)) T B T' B'
 | [], _, _, _, _, _, r => r
 | p :: pre, _, _, _, _, h, r => by
  cases r with
  | cons h1 r1 =>
   have hp := h p List.mem_cons_self
   have := Run.front (pre := pre) (fun q hq => h q (List.mem_cons_of_mem _ hq)) r1
   cases this with
   | cons h2 r2 =>
    obtain ⟨Tm, Bm, h2', h1'⟩ := swap hp.1 hp.2 h1 h2
    exact .cons h2' (.cons h1' r2)

variable {w0 : Ent} {A0 : Sta}
theorem wantF_sound {ops : Array Oper} {o : Oper} {L : Lay} {A : Sta} {T : Nat → AV} {B : Nat → Option Bx} {a : Act} {w : World} (hI : Inv w0 A0 N L A T B a w) :
 (wantF ops.toList o T = .go → Region.wanted o (yielded ops a.tmps) = true) ∧ (wantF ops.toList o T = .skip → Region.wanted o (yielded ops a.tmps) = false) := by
 unfold wantF Region.wanted
 cases hg : o.guard with
 | none => exact ⟨fun _ => rfl, (fun h => by cases h)⟩
 | some jw =>
  obtain ⟨j, want⟩ := jw
  have hd : dstOf ops.toList j = (ops[j]?).bind (·.dst) := by
   simp only [dstOf, Array.getElem?_toList]
   cases ops[j]? <;> rfl
  simp only
  rw [hd]
  unfold yielded
  cases hj : (ops[j]?).bind (·.dst) with
  | none => exact ⟨(fun h => by cases h), fun _ => by simp⟩
  | some t =>
   simp only [Option.bind_some]
   have htm := hI.tm t
   split
   ·rename_i b hb
    rw [hb] at htm
    have hv := rv_bool htm
    have hval : a.tmps[t]? = some (.bool b) := by
     rw [Array.getD_eq_getD_getElem?] at hv
     cases hq : a.tmps[t]? with
     | none => rw [hq] at hv; cases hv
     | some z => rw [hq] at hv; simp only [Option.getD_some] at hv; rw [hv]
    rw [hval]
    cases b <;> cases want <;> simp
   ·rename_i hb
    rw [hb] at htm
    refine ⟨(fun h => by cases h), fun _ => ?_⟩
    have hv : a.tmps.getD t undef = undef := by
     generalize a.tmps.getD t undef = z at htm
     cases htm; rfl
    rw [Array.getD_eq_getD_getElem?] at hv
    cases hq : a.tmps[t]? with
    | none => simp
    | some z => rw [hq] at hv; simp only [Option.getD_some] at hv; subst hv; simp [undef]
   ·exact ⟨(fun h => by cases h), (fun h => by cases h)⟩

theorem fstep_sound (hS : TysOk P S) {ops : Array Oper} {Q : Exit → Act → World → Prop} {i : Nat} {o : Oper} {l : Lab} (hi : ops[i]? = some o) {L : Lay} {A : Sta} {T T' : Nat → AV} {B B' : Nat → Option Bx} {a : Act} {w : World}
 (h : FStep P S N ops.toList o l T B T' B') (hI : Inv w0 A0 N L A T B a w) {K : Act → World → Prop} (hK : ∀ L A a' w', Inv w0 A0 N L A T' B' a' w' → K a' w') : wpOp P ops Q i K a w := by
 obtain ⟨v, ups, hs, hk, hu, hp, rfl, -⟩ := h
 obtain ⟨w1, w2⟩ := wantF_sound (ops := ops) (o := o) hI
 unfold wpOp
 rw [hi]
 rcases hs with ⟨hw, ho⟩ | ⟨hw, rfl, rfl⟩
 ·simp only [w1 hw, if_true]
  exact .inl ((op_sound hS o).run rfl hI (ho.any _) hu hp hK)
 ·simp only [w2 hw, Bool.false_eq_true, if_false]
  exact hK _ _ _ _ (undef_fin hI hp)

theorem mem_onsOf {j : Nat} : ∀ {l : List Edge}, j ∈ onsOf l ↔ ∃ e ∈ l, Region.binds .any e = true ∧ e.on = j
 | [] => by simp [onsOf]
 | e :: l => by
  simp only [onsOf]
  cases h : Region.binds .any e with
  | true =>
   simp only [List.mem_cons, mem_onsOf (l := l)]
   constructor
   ·rintro (rfl | ⟨e', h1, h2⟩)
    ·exact ⟨e, .inl rfl, h, rfl⟩
    ·exact ⟨e', .inr h1, h2⟩
   ·rintro ⟨e', rfl | h1, h2, h3⟩
    ·exact .inl h3.symm
    ·exact .inr ⟨e', h1, h2, h3⟩
  | false =>
   simp only [List.mem_cons, mem_onsOf (l := l)]
   constructor
   ·rintro ⟨e', h1, h2⟩
    exact ⟨e', .inr h1, h2⟩
   ·rintro ⟨e', rfl | h1, h2, h3⟩
    ·rw [h] at h2; cases h2
    ·exact ⟨e', h1, h2, h3⟩
theorem mem_ready {ops : Array Oper} {listed : Array Bool} (hsz : listed.size = ops.size) {i : Nat} : i ∈ Region.ready .any ops listed ↔ listed[i]? = some false ∧ ∃ o, ops[i]? = some o ∧ ∀ j ∈ onsOf o.after.toList, listed[j]? = some true := by
 simp only [Region.ready, List.mem_filter, List.mem_range, Bool.and_eq_true, Bool.not_eq_true']
 constructor
 ·rintro ⟨h1, h2, h3⟩
  have hl : i < listed.size := by omega
  have e : ops[i]? = some ops[i] := Array.getElem?_eq_getElem h1
  refine ⟨?_, ops[i], e, fun j hj => ?_⟩
  ·rw [Array.getD_eq_getD_getElem?] at h2
   rw [Array.getElem?_eq_getElem hl] at h2 ⊢
   simpa using h2
  ·obtain ⟨ed, he, hb, rfl⟩ := mem_onsOf.1 hj
   rw [e] at h3
   simp only [Option.map_some, Option.getD_some, Array.all_eq_true'] at h3
   have := h3 ed (Array.mem_toList_iff.1 he)
   rw [hb] at this
   simp only [Bool.not_true, Bool.false_or] at this
   rw [Array.getD_eq_getD_getElem?] at this
   cases hq : listed[ed.on]? with
   | none => rw [hq] at this; cases this
   | some z => rw [hq] at this; simp only [Option.getD_some] at this; rw [this]
 ·rintro ⟨h1, o, h2, h3⟩
  have hi : i < ops.size := by
   rcases Nat.lt_or_ge i ops.size with h | h
   ·exact h
   ·rw [Array.getElem?_eq_none h] at h2; cases h2
  refine ⟨hi, by rw [Array.getD_eq_getD_getElem?, h1]; rfl, ?_⟩
  rw [h2]
  simp only [Option.map_some, Option.getD_some, Array.all_eq_true']
  intro ed he
  cases hb : Region.binds .any ed with
  | false => rfl
  | true =>
   have := h3 ed.on (mem_onsOf.2 ⟨ed, Array.mem_toList_iff.2 he, hb, rfl⟩)
   rw [Array.getD_eq_getD_getElem?, this]
   rfl

def RelP (all : List Oper) (cl : Nat → Nat → Prop) (p q : Nat × Oper × Lab) : Prop :=
 cl q.1 p.1 ∨ (apartL all p.2.1 q.2.1 = true ∧ okPair p.2.2 q.2.2 = true)

theorem any_sound (hS : TysOk P S) {ops : Array Oper} {Q : Exit → Act → World → Prop} {cl : Nat → Nat → Prop} {T' : Nat → AV} {B' : Nat → Option Bx}
 (hcl : ∀ listed : Array Bool, (∀ (i : Nat) o, ops[i]? = some o → listed[i]? = some true → ∀ j ∈ onsOf o.after.toList, listed[j]? = some true) →
   ∀ (i : Nat) o, ops[i]? = some o → (∀ j ∈ onsOf o.after.toList, listed[j]? = some true) → ∀ j, cl i j → listed[j]? = some true)
 (hback : ∀ (i : Nat) o, ops[i]? = some o → ∀ j ∈ onsOf o.after.toList, j < i)
 (hQ : ∀ L A a' w', Inv w0 A0 N L A T' B' a' w' → Q .normal a' w') : ∀ (fuel : Nat) (listed : Array Bool) (rem : List (Nat × Oper × Lab)) {T : Nat → AV} {B : Nat → Option Bx} {L : Lay} {A : Sta} {a : Act} {w : World},
 listed.size = ops.size → rem.length = fuel → (∀ i, listed[i]? = some false ↔ i ∈ rem.map (·.1)) → (∀ p ∈ rem, ops[p.1]? = some p.2.1) →
 rem.Pairwise (fun p q => p.1 < q.1) → rem.Pairwise (RelP ops.toList cl) →
 (∀ (i : Nat) o, ops[i]? = some o → listed[i]? = some true → ∀ j ∈ onsOf o.after.toList, listed[j]? = some true) →
 Run P S N ops.toList rem T B T' B' → Inv w0 A0 N L A T B a w → wpAny P .any ops Q fuel listed a w
 | fuel, listed, rem, T, B, L, A, a, w, hsz, hlen, hmem, hget, hsort, hpair, hclosed, hrun, hI => by
  have hnil : Region.ready .any ops listed = [] → rem = [] := by
   intro hr
   cases rem with
   | nil => rfl
   | cons p rest =>
    have hp := hget p List.mem_cons_self
    have hpf : listed[p.1]? = some false := (hmem p.1).2 (by simp)
    have : p.1 ∈ Region.ready .any ops listed := by
     refine (mem_ready hsz).2 ⟨hpf, p.2.1, hp, fun j hj => ?_⟩
     have hlt := hback _ _ hp j hj
     have hp1 : p.1 < ops.size := by
      rcases Nat.lt_or_ge p.1 ops.size with h | h
      ·exact h
      ·rw [Array.getElem?_eq_none h] at hp; cases hp
     have hjl : j < listed.size := by omega
     cases hb : listed[j]? with
     | none => rw [Array.getElem?_eq_getElem hjl] at hb; cases hb
     | some b =>
      cases b with
      | true => rfl
      | false =>
       have := (hmem j).1 hb
       simp only [List.map_cons, List.mem_cons, List.mem_map] at this
       rcases this with h | ⟨q, hq, h⟩
       ·omega
       ·have := (List.pairwise_cons.1 hsort).1 q hq
        omega
    rw [hr] at this
    cases this
  have hfin : rem = [] → Q .normal a w := by
   rintro rfl
   cases hrun
   exact hQ _ _ _ _ hI
  cases fuel with
  | zero =>
   have hr : rem = [] := List.eq_nil_of_length_eq_zero hlen
   refine ⟨?_, hfin hr⟩
   cases hrd : Region.ready .any ops listed with
   | nil => rfl
   | cons i r =>
    have : i ∈ Region.ready .any ops listed := by rw [hrd]; exact List.mem_cons_self
    have := (hmem i).1 ((mem_ready hsz).1 this).1
    rw [hr] at this
    cases this
  | succ fuel =>
   refine ⟨fun hr => hfin (hnil hr), fun i hi => ?_⟩
   obtain ⟨hif, o, hio, hons⟩ := (mem_ready hsz).1 hi
   obtain ⟨p, hp, hpi⟩ := List.mem_map.1 ((hmem i).1 hif)
   obtain ⟨pre, post, rfl⟩ := List.append_of_mem hp
   subst hpi
   have hpo : p.2.1 = o := by
    have := hget p hp
    rw [hio] at this
    exact (Option.some.inj this).symm
   have hcli := hcl listed hclosed p.1 o hio hons
   have hfront := Run.front (x := p) (post := post) (pre := pre) (fun q hq => by
    rcases (List.pairwise_append.1 hpair).2.2 q hq p List.mem_cons_self with h | h
    ·have h1 := hcli q.1 h
     have h2 : listed[q.1]? = some false := (hmem q.1).2 (by simp only [List.map_append, List.mem_append, List.mem_map]; exact .inl ⟨q, hq, rfl⟩)
     rw [h1] at h2
     cases h2
    ·exact h) hrun
   cases hfront with
   | cons h1 h2 =>
    rw [hpo] at h1
    refine fstep_sound hS hio h1 hI fun L2 A2 a2 w2 hI2 => ?_
    have hil : p.1 < listed.size := by
     rcases Nat.lt_or_ge p.1 listed.size with h | h
     ·exact h
     ·rw [Array.getElem?_eq_none h] at hif; cases hif
    have hset : ∀ j, (listed.setIfInBounds p.1 true)[j]? = if p.1 = j then some true else listed[j]? := by
     intro j
     rw [Array.getElem?_setIfInBounds]
     by_cases e : p.1 = j
     ·simp [e, e ▸ hil]
     ·simp [e]
    have hmono : ∀ j : Nat, listed[j]? = some true → (listed.setIfInBounds p.1 true)[j]? = some true := by
     intro j hj; rw [hset]; split
     ·rfl
     ·exact hj
    have hsub : (pre ++ post).Sublist (pre ++ p :: post) := List.Sublist.append_left (List.sublist_cons_self _ _) _
    have hne : ∀ q ∈ pre ++ post, q.1 ≠ p.1 := by
     intro q hq
     obtain ⟨s1, s2, s3⟩ := List.pairwise_append.1 hsort
     rcases List.mem_append.1 hq with h | h
     ·have := s3 q h p List.mem_cons_self; omega
     ·have := (List.pairwise_cons.1 s2).1 q h; omega
    refine any_sound hS hcl hback hQ fuel _ (pre ++ post) (by simpa using hsz) ?_ (fun j => ?_) (fun q hq => hget q (hsub.subset hq)) (hsort.sublist hsub) (hpair.sublist hsub) ?_ h2 hI2
    ·simp only [List.length_append, List.length_cons] at hlen ⊢; omega
    ·rw [hset]
     constructor
     ·intro h
      split at h
      ·cases h
      ·rename_i hj
       have := (hmem j).1 h
       simp only [List.map_append, List.map_cons, List.mem_append, List.mem_cons] at this ⊢
       rcases this with h | h | h
       ·exact .inl h
       ·exact absurd h.symm hj
       ·exact .inr h
     ·intro h
      obtain ⟨q, hq, rfl⟩ := List.mem_map.1 h
      rw [if_neg fun e => hne q hq e.symm]
      exact (hmem q.1).2 (List.mem_map.2 ⟨q, hsub.subset hq, rfl⟩)
    ·intro j oj hj ht k hk
     rw [hset] at ht
     split at ht
     ·rename_i e
      subst e
      rw [hio] at hj
      cases hj
      exact hmono k (hons k hk)
     ·exact hmono k (hclosed j oj hj ht k hk)

/-! The lists of the evaluator. -/
def zip3 : Nat → List Oper → List Lab → List (Nat × Oper × Lab)
 | k, o :: r, l :: ls => (k, o, l) :: zip3 (k + 1) r ls
 | _, _, _ => []
theorem zip3_get {x : Nat × Oper × Lab} : ∀ {k : Nat} {r : List Oper} {ls : List Lab} {i : Nat}, (zip3 k r ls)[i]? = some x → x.1 = k + i ∧ r[i]? = some x.2.1 ∧ ls[i]? = some x.2.2
 | k, [], ls, i, h => by cases ls <;> simp [zip3] at h
 | k, o :: r, [], i, h => by simp [zip3] at h
 | k, o :: r, l :: ls, i, h => by
  cases i with
  | zero => simp only [zip3, List.getElem?_cons_zero, Option.some.injEq] at h; subst h; simp
  | succ i =>
   simp only [zip3, List.getElem?_cons_succ] at h
   obtain ⟨h1, h2, h3⟩ := zip3_get h
   exact ⟨by omega, by simpa using h2, by simpa using h3⟩
theorem zip3_len : ∀ {k : Nat} {r : List Oper} {ls : List Lab}, ls.length = r.length → (zip3 k r ls).length = r.length
 | k, [], ls, h => by cases ls <;> simp [zip3]
 | k, o :: r, [], h => by cases h
 | k, o :: r, l :: ls, h => by simp only [zip3, List.length_cons] at h ⊢; rw [zip3_len (by omega)]

theorem okAgainst_spec {o : Oper} {l : Lab} {m : Nat} : ∀ {pv : List (Nat × Oper × Lab)}, okAgainst all o l m pv = true → ∀ e ∈ pv, bitM m e.1 = true ∨ (apartL all e.2.1 o = true ∧ okPair e.2.2 l = true)
 | [], _, e, h => by cases h
 |(j, p, lj) :: r, h, e, he => by
  simp only [okAgainst] at h
  split at h
  ·rename_i hb
   cases he with
   | head => exact .inl hb
   | tail _ he => exact okAgainst_spec h e he
  ·split at h
   ·rename_i e1 e2
    cases he with
    | head => exact .inr ⟨e2, e1⟩
    | tail _ he => exact okAgainst_spec h e he
   ·cases h

theorem forceN_eq {β : Type} (n : Nat) (k : Nat → β) : forceN n k = k n := by cases n <;> rfl
theorem maskK_eq {β : Type} : ∀ (l : List Nat) (acc : Nat) (k : Nat → β), maskK l acc k = k (maskF l acc)
 | [], acc, k => forceN_eq acc k
 | _ :: r, _, k => maskK_eq r _ k
theorem labK_eq {β : Type} (o : Oper) (ρ : Operand → AV) (B : Nat → Option Bx) (v : AV) (ups : List (Nat × Option Bx)) (k : Lab → β) : labK o ρ B v ups k = k (labOf o ρ B v ups) := by
 simp only [labK, maskK_eq, labOf, maskL]
def reachF : Nat → List Oper → List (Nat × Nat) → List (Nat × Nat)
 | _, [], cl => cl
 | i, o :: r, cl => reachF (i + 1) r ((i, onsM cl (onsOf o.after.toList)) :: cl)
theorem reachK_eq {β : Type} : ∀ (i : Nat) (r : List Oper) (cl : List (Nat × Nat)) (k : List (Nat × Nat) → β), reachK i r cl k = k (reachF i r cl)
 | _, [], _, _ => rfl
 | i, o :: r, cl, k => by simp only [reachK, forceN_eq, reachF]; exact reachK_eq _ _ _ _
theorem onsM_bit {cl : List (Nat × Nat)} {j : Nat} : ∀ {l : List Nat}, bitM (onsM cl l) j = true → ∃ k ∈ l, j = k ∨ ∃ m, lk cl k = some m ∧ bitM m j = true
 | [], h => (bitM_zero.1 h).elim
 | k :: l, h => by
  simp only [onsM, bitM_lor, bitM_shift] at h
  rcases h with (h | h) | h
  ·exact ⟨k, List.mem_cons_self, .inl h⟩
  ·unfold getM at h
   cases hk : lk cl k with
   | none => rw [hk] at h; exact (bitM_zero.1 h).elim
   | some m => rw [hk] at h; exact ⟨k, List.mem_cons_self, .inr ⟨m, hk, h⟩⟩
  ·obtain ⟨k', h1, h2⟩ := onsM_bit h
   exact ⟨k', List.mem_cons_of_mem _ h1, h2⟩
theorem reach_listed {ops : Array Oper} {listed : Array Bool}
 (hc : ∀ (i : Nat) o, ops[i]? = some o → listed[i]? = some true → ∀ j ∈ onsOf o.after.toList, listed[j]? = some true) :
 ∀ (r : List Oper) (i : Nat) (pre : List Oper) (cl : List (Nat × Nat)), ops.toList = pre ++ r → i = pre.length →
 (∀ k m, lk cl k = some m → ∃ o, ops[k]? = some o ∧ ((∀ j ∈ onsOf o.after.toList, listed[j]? = some true) → ∀ j, bitM m j = true → listed[j]? = some true)) →
 ∀ k m, lk (reachF i r cl) k = some m → ∃ o, ops[k]? = some o ∧ ((∀ j ∈ onsOf o.after.toList, listed[j]? = some true) → ∀ j, bitM m j = true → listed[j]? = some true)
 | [], _, _, cl, _, _, h => h
 | o :: r, i, pre, cl, hops, hi, h => by
  have hget : ops[i]? = some o := by
   rw [← Array.getElem?_toList, hops, hi, List.getElem?_append_right (Nat.le_refl _), Nat.sub_self]; rfl
  refine reach_listed hc r (i + 1) (pre ++ [o]) _ (by rw [hops]; simp) (by simp [hi]) fun k m hk => ?_
  rw [lk_cons] at hk
  split at hk
  ·rename_i e
   subst e
   simp only [Option.some.injEq] at hk
   subst hk
   refine ⟨o, hget, fun hons j hj => ?_⟩
   obtain ⟨k', h1, h2 | ⟨m, h2, h3⟩⟩ := onsM_bit hj
   ·rw [h2]; exact hons k' h1
   ·obtain ⟨o', g1, g2⟩ := h k' m h2
    exact g2 (hc k' o' g1 (hons k' h1)) j h3
  ·exact h k m hk
theorem backL_spec : ∀ {i : Nat} {r : List Oper}, backL i r = true → ∀ (n : Nat) o, r[n]? = some o → ∀ j ∈ onsOf o.after.toList, j < i + n
 | i, [], _, n, o, h => by simp at h
 | i, q :: r, hb, n, o, h => by
  simp only [backL, Bool.and_eq_true, List.all_eq_true] at hb
  intro j hj
  cases n with
  | zero =>
   simp only [List.getElem?_cons_zero, Option.some.injEq] at h
   subst h
   have := Nat.le_of_ble_eq_true (hb.1 j hj)
   omega
  | succ n =>
   have := backL_spec hb.2 n o (by simpa using h) j hj
   omega
theorem actU_out {dst : Option Nat} {σ : St} {K : AV → List (Nat × Option Bx) → St → Prop} : ∀ {r : Res}, actU P N dst σ K r →
 ∃ (v : AV) (ups : List (Nat × Option Bx)) (σ1 σ' : St), Out P none r v ups ∧ UpsR dst ups σ.get (lk σ.bx) σ1.get (lk σ1.bx) ∧ PutR N dst v σ1.get (lk σ1.bx) σ'.get ∧ σ'.bx = σ1.bx ∧
  (∀ i x, (i, some x) ∈ ups → ∃ bx, x.okIn bx = true) ∧ (dst ≠ none → ∃ bx, v.okIn bx = true) ∧ K v ups σ'
 | .ok v ups, h => by
  obtain ⟨σ1, h1, h2⟩ := upsK_out h
  obtain ⟨σ', h3, h4, h5⟩ := putK_out h2
  exact ⟨v, ups, σ1, σ', .ok _ _, h1, h3, h4, upsK_ok h, putK_ok h2, h5⟩
 | .call f args ups, h => by
  cases h with
  | mk r hev h =>
   obtain ⟨σ1, h1, h2⟩ := upsK_out h
   obtain ⟨σ', h3, h4, h5⟩ := putK_out h2
   exact ⟨.d r, ups, σ1, σ', .call hev, h1, h3, h4, upsK_ok h, putK_ok h2, h5⟩
 | .callX t f xs hs, h => by
  cases h with
  | mk v us hev hok h =>
   obtain ⟨σ1, h1, h2⟩ := upsK_out h
   obtain ⟨σ', h3, h4, h5⟩ := putK_out h2
   exact ⟨v, _, σ1, σ', .callX hev hok, h1, h3, h4, upsK_ok h, putK_ok h2, h5⟩
 | .need p r, h => by
  obtain ⟨v, ups, σ1, σ', h1, h2⟩ := actU_out h.rest
  exact ⟨v, ups, σ1, σ', .need h.side h1, h2⟩
 | .pickR rows i k, h => by
  cases h with
  | mk e he h =>
   obtain ⟨v, ups, σ1, σ', h1, h2⟩ := actU_out h
   exact ⟨v, ups, σ1, σ', .pickR he h1, h2⟩
 | .unM rows k, h => by
  cases h with
  | mk rs he h =>
   obtain ⟨v, ups, σ1, σ', h1, h2⟩ := actU_out h
   exact ⟨v, ups, σ1, σ', .unM he h1, h2⟩
 | .look es k hit miss, h => by
  cases hg : mget es k with
  | some x =>
   obtain ⟨v, ups, σ1, σ', h1, h2⟩ := actU_out (h.hit x hg)
   exact ⟨v, ups, σ1, σ', .hit hg h1, h2⟩
  | none =>
   obtain ⟨v, ups, σ1, σ', h1, h2⟩ := actU_out (h.miss hg)
   exact ⟨v, ups, σ1, σ', .miss hg h1, h2⟩
 | .nilq _ _ _, h => h.elim
 | .nxt _ _ _ _, h => h.elim
 | .alt x y, h => by
  cases h with
  | l h =>
   obtain ⟨v, ups, σ1, σ', h1, h2⟩ := actU_out h
   exact ⟨v, ups, σ1, σ', .altL h1, h2⟩
  | r h =>
   obtain ⟨v, ups, σ1, σ', h1, h2⟩ := actU_out h
   exact ⟨v, ups, σ1, σ', .altR h1, h2⟩
 | .pick es i k, h => by
  cases h with
  | mk e he h =>
   obtain ⟨v, ups, σ1, σ', h1, h2⟩ := actU_out h
   exact ⟨v, ups, σ1, σ', .pick he h1, h2⟩
 | .wr ik n k, h => by
  cases h with
  | mk z hz h =>
   obtain ⟨v, ups, σ1, σ', h1, h2⟩ := actU_out h
   exact ⟨v, ups, σ1, σ', .wr hz h1, h2⟩
 | .bad, h => by cases h
where
 upsK_ok {dst : Option Nat} : ∀ {ups : List (Nat × Option Bx)} {σ : St} {K : St → Prop}, upsK dst ups σ K → ∀ i x, (i, some x) ∈ ups → ∃ bx, x.okIn bx = true
  | [], _, _, _, i, x, h => by cases h
  |(b, none) :: r, ⟨T, bx⟩, K, h, i, x, hm => by
   simp only [upsK, rmK_eq, pgBK_eq, pgTK_eq] at h
   cases hm with
   | tail _ hm => exact upsK_ok h i x hm
  |(b, some y) :: r, ⟨T, bx⟩, K, h, i, x, hm => by
   have key : y.okIn bx = true ∧ upsK dst r ⟨T, stF bx b y⟩ K := by
    simp only [upsK, stK_eq] at h
    split at h
    ·rename_i hok
     split at h
     ·exact ⟨hok, h⟩
     ·exact ⟨hok, h⟩
     ·cases h
    ·cases h
   cases hm with
   | head => exact ⟨bx, key.1⟩
   | tail _ hm => exact upsK_ok key.2 i x hm
 putK_ok {dst : Option Nat} {σ : St} {v : AV} {K : St → Prop} (h : putK N dst σ v K) : dst ≠ none → ∃ bx, v.okIn bx = true := by
  obtain ⟨T, bx⟩ := σ
  intro hd
  cases dst with
  | none => exact absurd rfl hd
  | some t =>
   simp only [putK] at h
   split at h
   ·rename_i h1 h2; exact ⟨bx, h2⟩
   ·cases h

theorem mem_upsMens {b i : Nat} {x : Bx} : ∀ {ups : List (Nat × Option Bx)}, (i, some x) ∈ ups → b ∈ x.mens → b ∈ upsMens ups
 |(j, none) :: r, h, hb => by
  cases h with
  | tail _ h => exact mem_upsMens (ups := r) h hb
 |(j, some y) :: r, h, hb => by
  simp only [upsMens, List.mem_append]
  cases h with
  | head => exact .inl hb
  | tail _ h => exact .inr (mem_upsMens (ups := r) h hb)

theorem mem_newOf {B : Nat → Option Bx} {b : Nat} : ∀ {ups : List (Nat × Option Bx)}, b ∈ Res.keys ups → B b = none → b ∈ newOf B ups
 |(i, u) :: r, h, hn => by
  simp only [newOf]
  simp only [Res.keys, List.mem_cons] at h
  rcases h with rfl | h
  ·rw [hn]; exact List.mem_cons_self
  ·cases B i with
   | some y => exact mem_newOf (ups := r) h hn
   | none => exact List.mem_cons_of_mem _ (mem_newOf (ups := r) h hn)
theorem stepsD_run {cl : List (Nat × Nat)} : ∀ (r : List Oper) (idx : Nat) {σ : St} {pv : List (Nat × Oper × Lab)} {K : St → Prop},
 stepsD P S N all cl idx r σ pv K → ∃ (σ' : St) (ls : List Lab), ls.length = r.length ∧ Run P S N all (zip3 idx r ls) σ.get (lk σ.bx) σ'.get (lk σ'.bx) ∧
  (zip3 idx r ls).Pairwise (RelP all fun i j => bitM (getM cl i) j = true) ∧ (∀ e ∈ pv, ∀ q ∈ zip3 idx r ls, RelP all (fun i j => bitM (getM cl i) j = true) e q) ∧ K σ'
 | [], idx, σ, pv, K, h => ⟨σ, [], rfl, .nil _ _, .nil, fun _ _ q hq => (by cases hq), h⟩
 | o :: r, idx, σ, pv, K, h => by
  have next : ∀ {σ1 : St} {l : Lab}, okAgainst all o l (getM cl idx) pv = true → stepsD P S N all cl (idx + 1) r σ1 ((idx, o, l) :: pv) K → FStep P S N all o l σ.get (lk σ.bx) σ1.get (lk σ1.bx) →
   ∃ (σ' : St) (ls : List Lab), ls.length = (o :: r).length ∧ Run P S N all (zip3 idx (o :: r) ls) σ.get (lk σ.bx) σ'.get (lk σ'.bx) ∧
    (zip3 idx (o :: r) ls).Pairwise (RelP all fun i j => bitM (getM cl i) j = true) ∧ (∀ e ∈ pv, ∀ q ∈ zip3 idx (o :: r) ls, RelP all (fun i j => bitM (getM cl i) j = true) e q) ∧ K σ' := by
   intro σ1 l h0 h1 h2
   obtain ⟨σ', ls, k1, k2, k3, k4, k5⟩ := stepsD_run r (idx + 1) h1
   refine ⟨σ', l :: ls, by simp [k1], .cons h2 k2, ?_, fun e he q hq => ?_, k5⟩
   ·exact List.pairwise_cons.2 ⟨fun q hq => k4 _ List.mem_cons_self q hq, k3⟩
   ·simp only [zip3, List.mem_cons] at hq
    rcases hq with rfl | hq
    ·exact okAgainst_spec h0 e he
    ·exact k4 e (List.mem_cons_of_mem _ he) q hq
  rw [stepsD_cons] at h
  split at h
  ·rename_i hw
   obtain ⟨v, ups, σ1, σ2, h1, h2, h3, h4, h5, h6, h7⟩ := actU_out h
   split at h7
   ·rename_i hk
    rw [labK_eq] at h7
    split at h7
    ·rename_i hok
     obtain ⟨σ3, g1, g2, g3⟩ := gsp_out h7
     obtain ⟨e1, e2⟩ := ups_nk h2 hk
     have hb3 : lk σ3.bx = apB ups (lk σ.bx) := by rw [g2, h4, e2]
     refine next hok g3 ⟨v, ups, .inl ⟨(wantA_eq all o σ).symm.trans hw, h1⟩, hk, by rw [← e2]; rw [e1] at h2; exact h2, ?_, hb3, fun _ b hb => ?_, fun b hb => bitM_mask.2 hb, fun b hk hn => ?_, fun hd b hb => ?_, fun i x hx b hb => ?_⟩
     ·rw [g1, ← e2, ← e1]; exact h3
     ·exact bitM_mask.2 hb
     ·exact bitM_mask.2 (mem_newOf hk hn)
     ·obtain ⟨bx, hok⟩ := h6 hd
      exact bitM_mask.2 (List.mem_append.2 (.inl (mens_men hok hb)))
     ·obtain ⟨bx, hok⟩ := h5 i x hx
      exact bitM_mask.2 (List.mem_append.2 (.inr (mem_upsMens hx (bx_mens_men hok hb))))
    ·cases h7
   ·cases h7
  ·rename_i hw
   split at h
   ·rename_i hok
    obtain ⟨σ1, h1, h2, h3⟩ := putK_out h
    refine next hok h3 ⟨.undef, [], .inr ⟨(wantA_eq all o σ).symm.trans hw, rfl, rfl⟩, rfl, .nil _ _, h1, by rw [h2]; rfl, fun hg => ?_, fun b hb => (by cases hb), fun b hk _ => (by cases hk), fun _ b hb => (by cases hb), fun i x hx => (by cases hx)⟩
    rw [← wantA_eq, hw] at hg
    cases hg
   ·cases h
  ·cases h

theorem regD_sound (hS : TysOk P S) (hm : P.follows .mixedOrders = true) {id : Nat} {ops : Array Oper} {Q : Exit → Act → World → Prop} {σ : St} {K : St → Prop} {a : Act} {w : World}
 (h : regD P S N ops.toList σ K) (hr : Rel w0 A0 N σ a w) (hK : ∀ σ' a' w', Rel w0 A0 N σ' a' w' → K σ' → Q .normal a' w') : (Code.region id ops true).wp P Q a w := by
 unfold regD at h
 split at h
 ·rename_i hback
  rw [reachK_eq] at h
  obtain ⟨σ', ls, h1, h2, h3, -, h4⟩ := stepsD_run ops.toList 0 h
  obtain ⟨L, A, hI⟩ := hr
  refine wp_region_any hm (any_sound hS (cl := fun i j => bitM (getM (reachF 0 ops.toList []) i) j = true) (T' := σ'.get) (B' := lk σ'.bx) ?_ ?_ (fun L A a' w' hI' => hK σ' a' w' ⟨L, A, hI'⟩ h4)
   ops.size _ (zip3 0 ops.toList ls) (by simp) (by rw [zip3_len h1]; simp) (fun i => ?_) (fun p hp => ?_) ?_ h3 ?_ h2 (hI.world ⟨⟨rfl, rfl, rfl, Nat.le_refl _, fun _ _ => rfl⟩, trivial⟩ (fun _ _ h => h) hI.Aok (fun _ _ h => .inl h)))
  ·intro listed hc i o ho hons j hj
   unfold getM at hj
   cases hcn : lk (reachF 0 ops.toList []) i with
   | none => rw [hcn] at hj; exact (bitM_zero.1 hj).elim
   | some m =>
    rw [hcn] at hj
    obtain ⟨o', g1, g2⟩ := reach_listed hc ops.toList 0 [] [] rfl rfl (fun k m hk => by simp [lk] at hk) i m hcn
    rw [ho] at g1
    cases g1
    exact g2 hons j hj
  ·intro i o ho j hj
   have := backL_spec hback i o (by rw [Array.getElem?_toList]; exact ho) j hj
   omega
  ·rw [Array.getElem?_replicate]
   constructor
   ·intro hi
    split at hi
    ·rename_i hlt
     have hlt' : i < (zip3 0 ops.toList ls).length := by rw [zip3_len h1]; simpa using hlt
     refine List.mem_map.2 ⟨(zip3 0 ops.toList ls)[i], List.getElem_mem _, ?_⟩
     have := (zip3_get (List.getElem?_eq_getElem hlt')).1
     omega
    ·cases hi
   ·intro hi
    obtain ⟨p, hp, rfl⟩ := List.mem_map.1 hi
    obtain ⟨n, hn, hpn⟩ := List.getElem_of_mem hp
    have hg := zip3_get (x := p) (by rw [List.getElem?_eq_getElem hn, hpn])
    rw [zip3_len h1] at hn
    have : p.1 < ops.size := by simp at hn; omega
    rw [if_pos this]
  ·obtain ⟨n, hn, hpn⟩ := List.getElem_of_mem hp
   obtain ⟨g1, g2, -⟩ := zip3_get (x := p) (by rw [List.getElem?_eq_getElem hn, hpn])
   rw [Array.getElem?_toList] at g2
   rw [show p.1 = n by omega]
   exact g2
  ·refine List.pairwise_iff_getElem.2 fun i j hi hj hij => ?_
   have g1 := (zip3_get (List.getElem?_eq_getElem hi)).1
   have g2 := (zip3_get (List.getElem?_eq_getElem hj)).1
   omega
  ·intro i o ho hl
   rw [Array.getElem?_replicate] at hl
   split at hl <;> cases hl
 ·cases h
end
end Go.Vm
end

section
/- Bodies: what the evaluator says holds of every run. -/
namespace Go.Vm
open Go.RowKit (Below)
section
variable {P : Program} {S : Tys} {N : Nat} {w0 : Ent} {A0 : Sta}

/-! Forgetting. -/
theorem leT_get {f : Nat → Option Nat} {σ : St} : ∀ {l : List (Nat × AV)}, leT f σ l → ∀ t v, lk l t = some v → leA3 f (σ.get t) v
 | [], _, t, v, h => by cases h
 |(i, u) :: r, hl, t, v, h => by
  rw [lk_cons] at h
  split at h
  ·rename_i e; subst e; cases h; exact hl.1
  ·exact leT_get hl.2 t v h
theorem leB_get {f : Nat → Option Nat} {σ : St} : ∀ {l : List (Nat × Bx)}, leB f σ l → ∀ b x, lk l b = some x → leX f (match f b with | some b' => lk σ.bx b' | none => none) b x
 | [], _, t, v, h => by cases h
 |(i, u) :: r, hl, t, v, h => by
  rw [lk_cons] at h
  split at h
  ·rename_i e; subst e; cases h; exact hl.1
  ·exact leB_get hl.2 t v h
theorem okAll_get {bx : List (Nat × Bx)} : ∀ {l : List (Nat × AV)}, okAll bx l = true → ∀ t v, lk l t = some v → v.okIn bx = true
 | [], _, t, v, h => by cases h
 |(i, u) :: r, hl, t, v, h => by
  simp only [okAll] at hl
  split at hl
  ·rename_i hu
   rw [lk_cons] at h
   split at h
   ·cases h; exact hu
   ·exact okAll_get hl t v h
  ·cases hl
theorem okAllB_get {bx : List (Nat × Bx)} : ∀ {l : List (Nat × Bx)}, okAllB bx l = true → ∀ t v, lk l t = some v → v.okIn bx = true
 | [], _, t, v, h => by cases h
 |(i, u) :: r, hl, t, v, h => by
  simp only [okAllB] at hl
  split at hl
  ·rename_i hu
   rw [lk_cons] at h
   split at h
   ·cases h; exact hu
   ·exact okAllB_get hl t v h
  ·cases hl
theorem okRn_spec {rn : List (Nat × Option Nat)} : ∀ {l : List (Nat × Bx)} {seen : List Nat}, okRn rn l seen = true →
 (∀ b c, lk l b ≠ none → rnF rn b = some c → c ∉ seen) ∧ (∀ b b' c, lk l b ≠ none → lk l b' ≠ none → rnF rn b = some c → rnF rn b' = some c → b = b')
 | [], seen, _ => ⟨fun b c h => absurd rfl h, fun b b' c h => absurd rfl h⟩
 |(k, x) :: r, seen, h => by
  simp only [okRn] at h
  cases hk : rnF rn k with
  | none =>
   rw [hk] at h
   obtain ⟨h1, h2⟩ := okRn_spec h
   have ne : ∀ b c, rnF rn b = some c → lk ((k, x) :: r) b ≠ none → lk r b ≠ none := by
    intro b c hb hn
    rw [lk_cons] at hn
    split at hn
    ·rename_i e; subst e; rw [hk] at hb; cases hb
    ·exact hn
   exact ⟨fun b c hb hc => h1 b c (ne b c hc hb) hc, fun b b' c hb hb' hc hc' => h2 b b' c (ne b c hc hb) (ne b' c hc' hb') hc hc'⟩
  | some c0 =>
   rw [hk] at h
   simp only at h
   split at h
   ·cases h
   ·rename_i hs
    obtain ⟨h1, h2⟩ := okRn_spec h
    have hs' : c0 ∉ seen := by
     intro hc
     rw [List.contains_iff_mem.2 hc] at hs
     cases hs
    have split1 : ∀ b, lk ((k, x) :: r) b ≠ none → b = k ∨ lk r b ≠ none := by
     intro b hb
     rw [lk_cons] at hb
     split at hb
     ·rename_i e; exact .inl e
     ·exact .inr hb
    refine ⟨fun b c hb hc => ?_, fun b b' c hb hb' hc hc' => ?_⟩
    ·rcases split1 b hb with rfl | hb
     ·rw [hk] at hc; cases hc; exact hs'
     ·intro hm; exact h1 b c hb hc (List.mem_cons_of_mem _ hm)
    ·rcases split1 b hb with e | hb
     ·rcases split1 b' hb' with e' | hb'
      ·rw [e, e']
      ·rw [e, hk] at hc; cases hc
       exact absurd List.mem_cons_self (h1 b' c0 hb' hc')
     ·rcases split1 b' hb' with e' | hb'
      ·rw [e', hk] at hc'; cases hc'
       exact absurd List.mem_cons_self (h1 b c0 hb hc)
      ·exact h2 b b' c hb hb' hc hc'

def verOf (bx : List (Nat × Bx)) (b : Nat) : Nat := match lk bx b with
 | some (.mat _ _ v _) => v
 | some (.shp v _ _) => v
 | some (.bld v _ _ _) => v
 | _ => 0
def leLay (f : Nat → Option Nat) (L : Lay) (bx : List (Nat × Bx)) : Lay where
 ι b := match f b with
  | some b' => L.ι b'
  | none => 0
 hd b := match f b with
  | some b' => L.hd b'
  | none => .slice none 0 0
 sub b v i := if pinned b = true then L.sub b v i else match f b with
  | some b' => L.sub b' (L.top b') i
  | none => undef
 top b := if pinned b = true then L.top b else verOf bx b
section
variable {f : Nat → Option Nat} {L : Lay} {bx : List (Nat × Bx)}
theorem leLay_ι {b b' : Nat} (h : f b = some b') : (leLay f L bx).ι b = L.ι b' := by simp only [leLay, h]
theorem leLay_hd {b b' : Nat} (h : f b = some b') : (leLay f L bx).hd b = L.hd b' := by simp only [leLay, h]
theorem leLay_hd0 {b : Nat} (h : f b = none) : (leLay f L bx).hd b = .slice none 0 0 := by simp only [leLay, h]
theorem leC_get : ∀ {us vs : List Cap}, leC f us vs → us.length = vs.length ∧ ∀ (j : Nat) u v, us[j]? = some u → vs[j]? = some v → (match v with
 | .box b => match f b with
  | some b' => u = .box b'
  | none => False
 | .dat x => u = .dat x)
 | [], [], _ => ⟨rfl, fun j u v h => by simp at h⟩
 | [], _ :: _, h => by cases h
 | _ :: _, [], h => by cases h
 | u :: us, v :: vs, h => by
  obtain ⟨h1, h2⟩ := leC_get h.2
  refine ⟨by simp [h1], fun j a b ha hb => ?_⟩
  cases j with
  | zero => simp only [List.getElem?_cons_zero, Option.some.injEq] at ha hb; subst ha; subst hb; exact h.1
  | succ j => exact h2 j a b (by simpa using ha) (by simpa using hb)
theorem leA_rv {w : World} {A : Sta} {u v : AV} {x : Value} (h : leA f u v) (hr : RV L w A u x) : RV (leLay f L bx) w A v x := by
 cases v with
 | d c => rw [show u = .d c from h] at hr; cases hr with | d hr => exact .d hr
 | ptr b off =>
  simp only [leA] at h
  split at h
  ·rename_i b' hb
   subst h
   cases hr
   rw [← leLay_ι (L := L) (bx := bx) hb]
   exact .ptr _ _
  ·cases h
 | eptr b sz i off =>
  simp only [leA] at h
  split at h
  ·rename_i b' hb
   subst h
   cases hr
   rw [← leLay_ι (L := L) (bx := bx) hb]
   exact .eptr _ _ _ _
  ·cases h
 | sptr b sz i j =>
  simp only [leA] at h
  split at h
  ·rename_i b' hb
   subst h
   cases hr
   rw [← leLay_ι (L := L) (bx := bx) hb]
   exact .sptr _ _ _ _
  ·cases h
 | mp b =>
  simp only [leA] at h
  split at h
  ·rename_i b' hb
   subst h
   cases hr
   rw [← leLay_ι (L := L) (bx := bx) hb]
   exact .mp _
  ·cases h
 | own b sz n =>
  simp only [leA] at h
  split at h
  ·rename_i b' hb
   subst h
   cases hr with
   | own _ _ _ h1 =>
    rw [← leLay_hd (L := L) (bx := bx) hb] at h1 ⊢
    exact .own _ _ _ h1
  ·rename_i hb
   obtain ⟨⟨s, rfl⟩, rfl⟩ := h
   cases hr
   rw [← leLay_hd0 (L := L) (bx := bx) hb]
   exact .own _ _ _ (by rw [leLay_hd0 hb]; rfl)
 | fnv g cs =>
  simp only [leA] at h
  split at h
  ·rename_i g' cs'
   obtain ⟨rfl, hc⟩ := h
   cases hr with
   | @fnv _ _ vs hl hr =>
    obtain ⟨l1, l2⟩ := leC_get hc
    refine .fnv (by rw [← l1]; exact hl) fun j c v hcj hv => ?_
    have hj : j < cs'.length := by rw [l1]; exact lt_of_get hcj
    have h1 := l2 j cs'[j] c (List.getElem?_eq_getElem hj) hcj
    have h2 := hr j cs'[j] v (List.getElem?_eq_getElem hj) hv
    cases c with
    | box b =>
     simp only at h1
     split at h1
     ·rename_i b' hb
      rw [h1] at h2
      simp only [CapV] at h2 ⊢
      rw [leLay_ι hb]
      exact h2
     ·cases h1
    | dat x =>
     simp only at h1
     rw [h1] at h2
     exact h2
  ·cases h
 | view b sz lo hi =>
  simp only [leA] at h
  split at h
  ·rename_i b' hb
   rw [h] at hr
   cases hr with
   | view _ _ _ _ g n C hg h2 => exact .view b sz lo hi g n C (by rw [leLay_hd hb]; exact hg) h2
  ·cases h
 | nil sz => rw [show u = .nil sz from h] at hr; cases hr; exact .nil _
 | junk => exact .junk _
 | agg => cases h
 | tup => cases h
 | sub b v i =>
  obtain ⟨hp, rfl⟩ := h
  cases hr with
  | sub _ _ _ h1 hv =>
   have e : (leLay f L bx).sub b v i = L.sub b v i := by simp only [leLay, hp, if_true]
   rw [← e] at h1 ⊢
   exact .sub _ _ _ h1 (by simp only [leLay, hp, if_true]; exact hv)
 | mptr => cases h
 | undef => cases h
theorem leL_get : ∀ {us vs : List AV}, leL f us vs → us.length = vs.length ∧ ∀ (j : Nat) u v, us[j]? = some u → vs[j]? = some v → leA f u v
 | [], [], _ => ⟨rfl, fun j u v h => by simp at h⟩
 | [], _ :: _, h => by cases h
 | _ :: _, [], h => by cases h
 | u :: us, v :: vs, h => by
  obtain ⟨h1, h2⟩ := leL_get h.2
  refine ⟨by simp [h1], fun j a b ha hb => ?_⟩
  cases j with
  | zero => simp only [List.getElem?_cons_zero, Option.some.injEq] at ha hb; subst ha; subst hb; exact h.1
  | succ j => exact h2 j a b (by simpa using ha) (by simpa using hb)
theorem leT2_get : ∀ {us vs : List AV}, leT2 f us vs → us.length = vs.length ∧ ∀ (j : Nat) u v, us[j]? = some u → vs[j]? = some v → leA2 f u v
 | [], [], _ => ⟨rfl, fun j u v h => by simp at h⟩
 | [], _ :: _, h => by cases h
 | _ :: _, [], h => by cases h
 | u :: us, v :: vs, h => by
  obtain ⟨h1, h2⟩ := leT2_get h.2
  refine ⟨by simp [h1], fun j a b ha hb => ?_⟩
  cases j with
  | zero => simp only [List.getElem?_cons_zero, Option.some.injEq] at ha hb; subst ha; subst hb; exact h.1
  | succ j => exact h2 j a b (by simpa using ha) (by simpa using hb)
theorem leA_one {u v : AV} (h : leA f u v) (hu : u.one = true) (hv : v ≠ .junk) : v.one = true := by
 cases v with
 | d c => rw [show u = .d c from h] at hu; exact hu
 | junk => exact absurd rfl hv
 | agg => cases h
 | tup => cases h
 | undef => cases h
 | _ => rfl
theorem leA2_rv {w : World} {A : Sta} {u v : AV} {x : Value} (h : leA2 f u v) (hr : RV L w A u x) : RV (leLay f L bx) w A v x := by
 cases v with
 | agg vs =>
  simp only [leA2] at h
  split at h
  ·rename_i us
   cases hr with
   | @agg _ xs hl h1 hr =>
    obtain ⟨l1, l2⟩ := leL_get h.1
    refine .agg (by rw [← l1]; exact hl) (fun c hc => ?_) fun j c v hcj hv => ?_
    ·obtain ⟨j, hj⟩ := List.getElem?_of_mem hc
     have hlt : j < us.length := by rw [l1]; exact lt_of_get hj
     have := l2 j us[j] c (List.getElem?_eq_getElem hlt) hj
     refine leA_one this (h1 _ (List.getElem_mem hlt)) ?_
     have := List.all_eq_true.1 h.2 c hc
     intro e
     rw [e] at this
     cases this
    ·have hlt : j < us.length := by rw [l1]; exact lt_of_get hcj
     exact leA_rv (l2 j us[j] c (List.getElem?_eq_getElem hlt) hcj) (hr j us[j] v (List.getElem?_eq_getElem hlt) hv)
  ·cases h
 | _ => exact leA_rv h hr
theorem leA3_rv {w : World} {A : Sta} {u v : AV} {x : Value} (h : leA3 f u v) (hr : RV L w A u x) : RV (leLay f L bx) w A v x := by
 cases v with
 | tup vs =>
  simp only [leA3] at h
  split at h
  ·rename_i us
   cases hr with
   | @tup _ xs hl hr =>
    obtain ⟨l1, l2⟩ := leT2_get h
    refine .tup (by rw [← l1]; exact hl) fun j c v hcj hv => ?_
    have hlt : j < us.length := by rw [l1]; exact lt_of_get hcj
    exact leA2_rv (l2 j us[j] c (List.getElem?_eq_getElem hlt) hcj) (hr j us[j] v (List.getElem?_eq_getElem hlt) hv)
  ·cases h
 | _ => exact leA2_rv h hr
end
theorem rnF_big : ∀ {rn : List (Nat × Option Nat)} {b : Nat}, okKeys rn = true → pinned b = true → rnF rn b = some b
 | [], _, _, _ => rfl
 |(k, v) :: r, b, h, hb => by
  simp only [okKeys] at h
  split at h
  ·rename_i hk
   have e : Nat.beq k b = false := by
    cases e : Nat.beq k b with
    | false => rfl
    | true => have := Nat.eq_of_beq_eq_true e; rw [this, hb] at hk; cases hk
   have ih := rnF_big (rn := r) h hb
   unfold rnF at ih ⊢
   simp only [lk, e]
   exact ih
  ·cases h

theorem le_sound {σ τ : St} {rn : List (Nat × Option Nat)} {a : Act} {w : World} (h : Le σ τ rn) (hr : Rel w0 A0 N σ a w) : Rel w0 A0 N τ a w := by
 obtain ⟨L, A, hI⟩ := hr
 obtain ⟨hT, hB, hok⟩ := h
 rw [Bool.and_eq_true, Bool.and_eq_true, Bool.and_eq_true] at hok
 obtain ⟨⟨⟨ok1, ok2⟩, ok3⟩, ok4⟩ := hok
 have hget : ∀ b x, lk τ.bx b = some x → leX (rnF rn) (match rnF rn b with | some b' => lk σ.bx b' | none => none) b x := leB_get hB
 -- each box stands for one that was there, or is a slice that is still nil
 have key : ∀ b x, lk τ.bx b = some x → BR w0.B0 (leLay (rnF rn) L τ.bx) w A b x ∧ ∀ g, own (leLay (rnF rn) L τ.bx) b x g → ∃ b' y, rnF rn b = some b' ∧ lk σ.bx b' = some y ∧ own L b' y g := by
  intro b x hx
  have h1 := hget b x hx
  cases x with
  | var cs fz =>
   obtain ⟨hn, h1⟩ := h1
   cases hb : rnF rn b with
   | none => exact absurd hb hn
   | some b' =>
    rw [hb] at h1
    simp only at h1
    cases hy : lk σ.bx b' with
    | none => rw [hy] at h1; cases h1
    | some y =>
     rw [hy] at h1
     cases y with
     | row => cases h1
     | arr => cases h1
     | mat => cases h1
     | map => cases h1
     | iter => cases h1
     | gone => cases h1
     | shp => cases h1
     | bld => cases h1
     | var cs' fz' =>
      obtain ⟨hl, hf⟩ := h1
      obtain ⟨l1, l2⟩ := leL_get hl
      obtain ⟨C, t, c1, c2, c3, c4⟩ := hI.bxs b' _ hy
      have e : (leLay (rnF rn) L τ.bx).ι b = L.ι b' := leLay_ι hb
      refine ⟨⟨C, t, by rw [e]; exact c1, by rw [c2, l1], fun j c v hc hv => ?_, fun hz => ?_⟩, fun g hg => ⟨b', _, rfl, hy, by rw [show g = _ from hg]; exact e⟩⟩
      ·have hj : j < cs'.length := by rw [l1]; exact lt_of_get hc
       exact leA_rv (l2 j cs'[j] c (List.getElem?_eq_getElem hj) hc) (c3 j _ v (List.getElem?_eq_getElem hj) hv)
      ·rw [e]
       refine c4 ?_
       cases fz' with
       | false => rfl
       | true => rw [hf rfl] at hz; cases hz
  | arr es fz =>
   obtain ⟨hn, h1⟩ := h1
   cases hb : rnF rn b with
   | none => exact absurd hb hn
   | some b' =>
    rw [hb] at h1
    simp only at h1
    cases hy : lk σ.bx b' with
    | none => rw [hy] at h1; cases h1
    | some y =>
     rw [hy] at h1
     cases y with
     | row => cases h1
     | var => cases h1
     | mat => cases h1
     | map => cases h1
     | iter => cases h1
     | gone => cases h1
     | shp => cases h1
     | bld => cases h1
     | arr es' fz' =>
      obtain ⟨rfl, hf⟩ := h1
      obtain ⟨C, t, c1, c2, c3, c4, c5⟩ := hI.bxs b' _ hy
      have e : (leLay (rnF rn) L τ.bx).ι b = L.ι b' := leLay_ι hb
      refine ⟨⟨C, t, by rw [e]; exact c1, c2, c3, c4, fun hz => ?_⟩, fun g hg => ⟨b', _, rfl, hy, by rw [show g = _ from hg]; exact e⟩⟩
      rw [e]
      refine c5 ?_
      cases fz' with
      | false => rfl
      | true => rw [hf rfl] at hz; cases hz
  | row et sz es fz =>
   simp only [leX] at h1
   cases hb : rnF rn b with
   | none =>
    rw [hb] at h1
    simp only at h1
    subst h1
    have e : (leLay (rnF rn) L τ.bx).hd b = .slice none 0 0 := leLay_hd0 hb
    refine ⟨⟨[], by rw [e]; exact ⟨by simp, .inl ⟨rfl, rfl⟩⟩, fun i e h => by simp at h, fun i e j c v h => by simp at h, fun g hg => ?_, fun hn => absurd e hn⟩, fun g hg => ?_⟩
    ·rw [e] at hg; cases hg
    ·have hg' : ((leLay (rnF rn) L τ.bx).hd b).ownBlock = some g := hg
     rw [e] at hg'; cases hg'
   | some b' =>
    rw [hb] at h1
    simp only at h1
    cases hy : lk σ.bx b' with
    | none => rw [hy] at h1; cases h1
    | some y =>
     rw [hy] at h1
     cases y with
     | var => cases h1
     | arr => cases h1
     | mat => cases h1
     | map => cases h1
     | iter => cases h1
     | gone => cases h1
     | shp => cases h1
     | bld => cases h1
     | row et' sz' es' fz' =>
      obtain ⟨rfl, rfl, rfl, hf⟩ := h1
      obtain ⟨xs, c1, c2, c3, c4, c5⟩ := hI.bxs b' _ hy
      have e : (leLay (rnF rn) L τ.bx).ι b = L.ι b' := leLay_ι hb
      have e2 : (leLay (rnF rn) L τ.bx).hd b = L.hd b' := leLay_hd hb
      refine ⟨⟨xs, by rw [e2]; exact c1, c2, c3, by rw [e, e2]; exact c4, by rw [e, e2]; exact fun hn o ho => ⟨hf (c5 hn o ho).1, (c5 hn o ho).2⟩⟩, fun g hg => ⟨b', _, rfl, hy, ?_⟩⟩
      have hg' : ((leLay (rnF rn) L τ.bx).hd b).ownBlock = some g := hg
      rw [e2] at hg'
      exact hg'
  | map kt et kd es =>
   obtain ⟨hn, h1⟩ := h1
   cases hb : rnF rn b with
   | none => exact absurd hb hn
   | some b' =>
    rw [hb] at h1
    simp only at h1
    cases hy : lk σ.bx b' with
    | none => rw [hy] at h1; cases h1
    | some y =>
     rw [hy] at h1
     cases y with
     | row => cases h1
     | var => cases h1
     | mat => cases h1
     | arr => cases h1
     | iter => cases h1
     | gone => cases h1
     | shp => cases h1
     | bld => cases h1
     | map kt' et' kd' es' =>
      obtain ⟨rfl, rfl, rfl, rfl⟩ := h1
      obtain ⟨E, c, c1, c2, c3, c4⟩ := hI.bxs b' _ hy
      have e : (leLay (rnF rn) L τ.bx).ι b = L.ι b' := leLay_ι hb
      exact ⟨⟨E, c, by rw [e]; exact c1, c2, c3, by rw [e]; exact c4⟩, fun g hg => ⟨b', _, rfl, hy, by rw [show g = _ from hg]; exact e⟩⟩
  | iter m n seen =>
   obtain ⟨hn, h1⟩ := h1
   cases hb : rnF rn b with
   | none => exact absurd hb hn
   | some b' =>
    rw [hb] at h1
    simp only at h1
    cases hy : lk σ.bx b' with
    | none => rw [hy] at h1; cases h1
    | some y =>
     rw [hy] at h1
     cases y with
     | row => cases h1
     | var => cases h1
     | mat => cases h1
     | arr => cases h1
     | map => cases h1
     | gone => cases h1
     | shp => cases h1
     | bld => cases h1
     | iter m' n' seen' =>
      obtain ⟨rfl, rfl, h1⟩ := h1
      obtain ⟨⟨g0, c1, c2⟩, c3⟩ := hI.bxs b' _ hy
      have e : (leLay (rnF rn) L τ.bx).ι b = L.ι b' := leLay_ι hb
      refine ⟨⟨⟨g0, by rw [e]; exact c1, fun d hd => ?_⟩, by rw [e]; exact c3⟩, fun g hg => ⟨b', _, rfl, hy, by rw [show g = _ from hg]; exact e⟩⟩
      subst hd
      simp only at h1
      split at h1
      ·rename_i c' hc'
       rw [leLay_ι hc']; exact c2 c' h1
      ·cases h1
  | gone => exact ⟨trivial, fun g hg => hg.elim⟩
  | shp v n q =>
   simp only [leX] at h1
   cases hb : rnF rn b with
   | none =>
    rw [hb] at h1
    simp only at h1
    obtain ⟨rfl, h1⟩ := h1
    have hp : ¬ pinned b = true := fun hp => by rw [rnF_big ok4 hp] at hb; cases hb
    have e : (leLay (rnF rn) L τ.bx).hd b = .slice none 0 0 := leLay_hd0 hb
    have ht : (leLay (rnF rn) L τ.bx).top b = v := by
     show (if pinned b = true then L.top b else verOf τ.bx b) = v
     rw [if_neg hp]
     simp only [verOf, hx]
    have hno : ∀ g, ¬ own (leLay (rnF rn) L τ.bx) b (.shp v 0 q) g := by
     rintro g (hg | ⟨i, h, _⟩)
     ·rw [e] at hg; cases hg
     ·omega
    refine ⟨⟨ht.symm, ?_, fun g hg => absurd hg (hno g)⟩, fun g hg => absurd hg (hno g)⟩
    rw [e]
    simp only [Nat.not_lt_zero, if_false]
    exact h1
   | some b' =>
    rw [hb] at h1
    simp only at h1
    cases hy : lk σ.bx b' with
    | none => rw [hy] at h1; cases h1
    | some y =>
     rw [hy] at h1
     cases y with
     | row => cases h1
     | var => cases h1
     | mat => cases h1
     | arr => cases h1
     | iter => cases h1
     | gone => cases h1
     | map => cases h1
     | bld => cases h1
     | shp v' n' q' =>
      obtain ⟨rfl, rfl, hv⟩ := h1
      obtain ⟨c1, c2, c3⟩ := hI.bxs b' _ hy
      have e2 : (leLay (rnF rn) L τ.bx).hd b = L.hd b' := leLay_hd hb
      have hpb : pinned b = true → b' = b := fun hp => by rw [rnF_big ok4 hp] at hb; exact (Option.some.inj hb).symm
      have ht : v = (leLay (rnF rn) L τ.bx).top b := by
       show v = (if pinned b = true then L.top b else verOf τ.bx b)
       split
       ·rename_i hp
        rw [← hv hp, c1, hpb hp]
       ·simp only [verOf, hx]
      have hs : ∀ i, (leLay (rnF rn) L τ.bx).sub b v i = L.sub b' v' i := by
       intro i
       show (if pinned b = true then L.sub b v i else match rnF rn b with
        | some b' => L.sub b' (L.top b') i
        | none => undef) = _
       split
       ·rename_i hp
        rw [hv hp, hpb hp]
       ·simp only [hb, c1]
      have ho : ∀ g, own (leLay (rnF rn) L τ.bx) b (.shp v n' q') g → own L b' (.shp v' n' q') g := by
       rintro g (hg | ⟨i, h, hg⟩)
       ·rw [e2] at hg; exact .inl hg
       ·rw [hs] at hg; exact .inr ⟨i, h, hg⟩
      refine ⟨⟨ht, ?_, fun g hg => c3 g (ho g hg)⟩, fun g hg => ⟨b', _, rfl, hy, ho g hg⟩⟩
      simp only [e2, hs]; exact c2
  | bld v T e s =>
   obtain ⟨hn, h1⟩ := h1
   cases hb : rnF rn b with
   | none => exact absurd hb hn
   | some b' =>
    rw [hb] at h1
    simp only at h1
    cases hy : lk σ.bx b' with
    | none => rw [hy] at h1; cases h1
    | some y =>
     rw [hy] at h1
     cases y with
     | row => cases h1
     | var => cases h1
     | mat => cases h1
     | arr => cases h1
     | iter => cases h1
     | gone => cases h1
     | map => cases h1
     | shp => cases h1
     | bld v' T' e' s' =>
      obtain ⟨rfl, rfl, rfl, hv⟩ := h1
      obtain ⟨c1, ⟨p, c2, c3⟩, c4, c5, c6⟩ := hI.bxs b' _ hy
      have e2 : (leLay (rnF rn) L τ.bx).ι b = L.ι b' := leLay_ι hb
      have hpb : pinned b = true → b' = b := fun hp => by rw [rnF_big ok4 hp] at hb; exact (Option.some.inj hb).symm
      have ht : v = (leLay (rnF rn) L τ.bx).top b := by
       show v = (if pinned b = true then L.top b else verOf τ.bx b)
       split
       ·rename_i hp
        rw [← hv hp, c1, hpb hp]
       ·simp only [verOf, hx]
      have hs : ∀ i, (leLay (rnF rn) L τ.bx).sub b v i = L.sub b' v' i := by
       intro i
       show (if pinned b = true then L.sub b v i else match rnF rn b with
        | some b' => L.sub b' (L.top b') i
        | none => undef) = _
       split
       ·rename_i hp
        rw [hv hp, hpb hp]
       ·simp only [hb, c1]
      have ho : ∀ g, own (leLay (rnF rn) L τ.bx) b (.bld v T' e' s') g → own L b' (.bld v' T' e' s') g := by
       rintro g (hg | hg)
       ·rw [e2] at hg; exact .inl hg
       ·rw [hs] at hg; exact .inr hg
      exact ⟨⟨ht, ⟨p, by rw [e2, hs]; exact c2, by rw [e2]; exact c3⟩, by rw [hs]; exact c4, by rw [hs, e2]; exact c5, fun g hg => c6 g (ho g hg)⟩, fun g hg => ⟨b', _, rfl, hy, ho g hg⟩⟩
  | mat et ie v rows =>
   simp only [leX] at h1
   cases hb : rnF rn b with
   | none =>
    rw [hb] at h1
    simp only at h1
    subst h1
    have hp : ¬ pinned b = true := fun hp => by rw [rnF_big ok4 hp] at hb; cases hb
    have e : (leLay (rnF rn) L τ.bx).hd b = .slice none 0 0 := leLay_hd0 hb
    have ht : (leLay (rnF rn) L τ.bx).top b = v := by
     show (if pinned b = true then L.top b else verOf τ.bx b) = v
     rw [if_neg hp]
     simp only [verOf, hx]
    refine ⟨⟨[], by rw [e]; exact ⟨by simp, .inl ⟨rfl, rfl⟩⟩, fun g hg => ?_, ht.symm, fun i es h => by simp at h, fun i j es es' g h => by simp at h, fun i es g h => by simp at h, fun g hg => ?_⟩, fun g hg => ?_⟩
    ·rw [e] at hg; cases hg
    ·rcases hg with hg | ⟨i, es, h, _⟩
     ·rw [e] at hg; cases hg
     ·simp at h
    ·rcases hg with hg | ⟨i, es, h, _⟩
     ·rw [e] at hg; cases hg
     ·simp at h
   | some b' =>
    rw [hb] at h1
    simp only at h1
    cases hy : lk σ.bx b' with
    | none => rw [hy] at h1; cases h1
    | some y =>
     rw [hy] at h1
     cases y with
     | var => cases h1
     | arr => cases h1
     | row => cases h1
     | map => cases h1
     | iter => cases h1
     | gone => cases h1
     | shp => cases h1
     | bld => cases h1
     | mat et' ie' v' rows' =>
      obtain ⟨rfl, rfl, rfl, hv⟩ := h1
      obtain ⟨xs, c1, c2, c3, c4, c5, c6, c7⟩ := hI.bxs b' _ hy
      have e : (leLay (rnF rn) L τ.bx).ι b = L.ι b' := leLay_ι hb
      have e2 : (leLay (rnF rn) L τ.bx).hd b = L.hd b' := leLay_hd hb
      have hpb : pinned b = true → b' = b := fun hp => by rw [rnF_big ok4 hp] at hb; exact (Option.some.inj hb).symm
      have ht : v = (leLay (rnF rn) L τ.bx).top b := by
       show v = (if pinned b = true then L.top b else verOf τ.bx b)
       split
       ·rename_i hp
        rw [← hv hp, c3, hpb hp]
       ·simp only [verOf, hx]
      have hs : ∀ i, (leLay (rnF rn) L τ.bx).sub b v i = L.sub b' v' i := by
       intro i
       show (if pinned b = true then L.sub b v i else match rnF rn b with
        | some b' => L.sub b' (L.top b') i
        | none => undef) = _
       split
       ·rename_i hp
        rw [hv hp, hpb hp]
       ·simp only [hb, c3]
      have ho : ∀ g, own (leLay (rnF rn) L τ.bx) b (.mat et' ie' v rows') g → own L b' (.mat et' ie' v' rows') g := by
       rintro g (hg | ⟨i, es, h, hg⟩)
       ·rw [e2] at hg; exact .inl hg
       ·rw [hs] at hg; exact .inr ⟨i, es, h, hg⟩
      exact ⟨⟨xs, by rw [e2]; exact c1, by rw [e, e2]; exact c2, ht, fun i es hi => by rw [hs]; exact c4 i es hi, fun i j es es' g h h' hg hg' => by rw [hs] at hg hg'; exact c5 i j es es' g h h' hg hg',
       fun i es g h hg => by rw [hs] at hg; rw [e2]; exact c6 i es g h hg, fun g hg => c7 g (ho g hg)⟩, fun g hg => ⟨b', _, rfl, hy, ho g hg⟩⟩
 refine ⟨leLay (rnF rn) L τ.bx, A, { hI with pin := fun b hb hn => ?_, tm := fun t => ?_, bxs := fun b x hx => (key b x hx).1, lo := fun b x g hx hg => ?_, inj := fun b b' x x' g hx hx' hg hg' => ?_, clT := fun t b hm => ?_, clB := fun b x b' hx hm => ?_ }⟩
 ·have e := rnF_big ok4 hb
  have hσ : lk σ.bx b ≠ none := by
   cases hx : lk τ.bx b with
   | none => exact absurd hx hn
   | some x =>
    have h1 := hget b x hx
    intro hs
    cases x with
    | var => simp only [leX, e, hs, and_false] at h1
    | arr => simp only [leX, e, hs, and_false] at h1
    | map => simp only [leX, e, hs, and_false] at h1
    | iter => simp only [leX, e, hs, and_false] at h1
    | gone => simp only [leX, e, hs, and_false] at h1
    | shp => simp only [leX, e, hs] at h1
    | bld => simp only [leX, e, hs, and_false] at h1
    | row => simp only [leX, e, hs] at h1
    | mat => simp only [leX, e, hs] at h1
  have hp := hI.pin b hb hσ
  refine ⟨(leLay_ι e).trans hp.ι, (leLay_hd e).trans hp.hd, ?_, fun v hv i => ?_⟩
  ·show w0.L.top b ≤ (if pinned b = true then L.top b else verOf τ.bx b)
   rw [if_pos hb]
   exact hp.top
  ·show (if pinned b = true then L.sub b v i else _) = _
   rw [if_pos hb]
   exact hp.sub v hv i
 ·unfold St.get
  cases ht : lk τ.T t with
  | none => exact .junk _
  | some v => exact leA3_rv (leT_get hT t v ht) (hI.tm t)
 ·obtain ⟨b', y, g1, g2, g3⟩ := (key b x hx).2 g hg
  exact hI.lo b' y g g2 g3
 ·obtain ⟨c, y, g1, g2, g3⟩ := (key b x hx).2 g hg
  obtain ⟨c', y', k1, k2, k3⟩ := (key b' x' hx').2 g hg'
  have hcc := hI.inj c c' y y' g g2 k2 g3 k3
  subst hcc
  exact (okRn_spec ok3).2 b b' c (by rw [hx]; simp) (by rw [hx']; simp) g1 k1
 ·unfold St.get at hm
  cases ht : lk τ.T t with
  | none => rw [ht] at hm; cases hm
  | some v => rw [ht] at hm; exact okIn_men (okAll_get ok1 t v ht) hm
 ·exact bx_okIn_men (okAllB_get ok2 b x hx) hm

def Ex.to : Ex → Exit
 | .normal => .normal
 | .exit i => .exit i
 | .ret => .ret

theorem loop_sound {c : Code} {ι : Type} {I : ι → Act → World → Prop} {μ : ι → Nat} {Q : Exit → Act → World → Prop}
 (round : ∀ i a w, I i a w → c.wp P (Exit.then (fun a' w' => ∃ i', I i' a' w' ∧ μ i' < μ i) Q) a w) {i : ι} {a : Act} {w : World} (h0 : I i a w) : (Code.loop c).wp P Q a w := by
 intro b k cs
 have key : ∀ n i a w, μ i = n → I i a w → ∃ e a' w', Q e a' w' ∧ Arrives P (lone (b.at a (.code c :: .inLoop c :: k)) cs w) b k cs e a' w' := by
  intro n
  induction n using Nat.strongRecOn with
  | _ n ih =>
   intro i a w hn hI
   obtain ⟨e, a1, w1, hq, harr⟩ := round i a w hI b (.inLoop c :: k) cs
   cases e with
   | normal =>
    obtain ⟨i', hI1, hlt⟩ := hq
    obtain ⟨e2, a2, w2, hq2, harr2⟩ := ih (μ i') (hn ▸ hlt) i' a1 w1 rfl hI1
    exact ⟨e2, a2, w2, hq2, .of_steps (Steps.trans harr (.one step_inLoop)) harr2⟩
   | exit id => exact ⟨_, a1, w1, hq, .pass (x := .inLoop c) rfl (fun _ _ => .inl (by simp)) harr⟩
   | goto l => exact ⟨_, a1, w1, hq, .pass (x := .inLoop c) rfl (fun _ _ => .inl (by simp)) harr⟩
   | ret => exact ⟨_, a1, w1, hq, .pass (x := .inLoop c) rfl (fun _ _ => .inl (by simp)) harr⟩
   | panic ch => exact ⟨_, a1, w1, hq, .pass (x := .inLoop c) rfl (fun _ _ => .inl (by simp)) harr⟩
   | outgrown => exact ⟨_, a1, w1, hq, .pass (x := .inLoop c) rfl (fun _ _ => .inl (by simp)) harr⟩
 obtain ⟨e, a', w', hq, harr⟩ := key _ i a w rfl h0
 exact ⟨e, a', w', hq, .of_steps (.one step_loop) harr⟩

theorem awp_sound (hS : TysOk P S) (hm : P.follows .mixedOrders = true) : ∀ (c : Code) {K : Ex → St → Prop} {σ : St} {a : Act} {w : World} {Q : Exit → Act → World → Prop},
 awp P S N c K σ → Rel w0 A0 N σ a w → (∀ e σ' a' w', Rel w0 A0 N σ' a' w' → K e σ' → Q e.to a' w') → c.wp P Q a w := by
 intro c
 induction c with
 | skip => intro K σ a w Q h hr hK; exact wp_skip (hK .normal σ a w hr h)
 | region id ops draw =>
  intro K σ a w Q h hr hK
  cases draw with
  | false =>
   refine wp_region ?_
   have := steps_sound (Q := Q) hS ops.toList 0 [] rfl rfl h hr fun σ' a' w' hr' hk => hK .normal σ' a' w' hr' hk
   rw [Array.length_toList] at this
   rw [List.range_eq_range']
   exact this
  | true => exact regD_sound hS hm h hr fun σ' a' w' hr' hk => hK .normal σ' a' w' hr' hk
 | seq x y ihx ihy =>
  intro K σ a w Q h hr hK
  refine wp_seq (ihx h hr fun e σ' a' w' hr' hk => ?_)
  cases e with
  | normal => exact ihy hk hr' hK
  | exit i => exact hK (.exit i) σ' a' w' hr' hk
  | ret => exact hK .ret σ' a' w' hr' hk
 | cond c x y ihx ihy =>
  intro K σ a w Q h hr hK
  rw [awp_cond] at h
  split at h
  ·rename_i t ht
   have hev : a.eval c = .bool t := by
    obtain ⟨L, A, hI⟩ := hr
    have := ev_rv hI c
    rw [show evA σ.get c = .d (.bool t) from ht] at this
    exact rv_bool this
   exact wp_cond_split hev (fun e => ihx (h.yes e) hr hK) (fun e => ihy (h.no e) hr hK)
  ·cases h
 | block id c ih =>
  intro K σ a w Q h hr hK
  refine wp_block (ih h hr fun e σ' a' w' hr' hk => ?_)
  cases e with
  | normal => exact hK .normal σ' a' w' hr' hk
  | ret => exact hK .ret σ' a' w' hr' hk
  | exit i =>
   simp only [Ex.to, Exit.inBlock]
   simp only at hk
   cases e : Nat.beq i id with
   | true =>
    rw [e] at hk
    rw [if_pos (Nat.eq_of_beq_eq_true e)]
    exact hK .normal σ' a' w' hr' hk
   | false =>
    rw [e] at hk
    rw [if_neg (beq_false_ne e)]
    exact hK (.exit i) σ' a' w' hr' hk
 | exit i => intro K σ a w Q h hr hK; exact wp_exit (hK (.exit i) σ a w hr h)
 | ret => intro K σ a w Q h hr hK; exact wp_ret (hK .ret σ a w hr h)
 | loop c ih =>
  intro K σ a w Q h hr hK
  have h : LoopK (fun K' σ' => awp P S N c K' σ') K σ (dstM c) := (forceN_eq (dstM c) _).mp h
  cases h with
  | mk I Sk μ i0 rn0 hi0 h0 round =>
   refine loop_sound (I := fun i a w => I i ∧ Rel w0 A0 N (Sk i) a w) (μ := μ) (fun i a w hi => ih (round i hi.1) hi.2 fun e σ' a' w' hr' hk => ?_) ⟨hi0, le_sound h0 hr⟩
   cases e with
   | normal =>
    cases hk with
    | mk i' rn hi hm hl => exact ⟨i', ⟨hi, le_sound hl hr'⟩, hm⟩
   | exit i => exact hK (.exit i) σ' a' w' hr' hk
   | ret => exact hK .ret σ' a' w' hr' hk
  | unr n h =>
   refine loop_sound (I := fun n a w => ∃ σ, Rel w0 A0 N σ a w ∧ Unr (fun K' σ' => awp P S N c K' σ') K n σ) (μ := id) (fun n a w hi => ?_) ⟨σ, hr, h⟩
   obtain ⟨σ1, hr1, hu⟩ := hi
   cases n with
   | zero => exact hu.elim
   | succ n =>
    refine ih hu hr1 fun e σ' a' w' hr' hk => ?_
    cases e with
    | normal => exact ⟨n, ⟨σ', hr', hk⟩, Nat.lt_succ_self n⟩
    | exit i => exact hK (.exit i) σ' a' w' hr' hk
    | ret => exact hK .ret σ' a' w' hr' hk
 | _ => intro K σ a w Q h; cases h
end
end Go.Vm
end

section
/- From a walked body to the function's contract. -/
namespace Go.Vm
open Go.RowKit (Below)
def numT : Nat → List D → List (Nat × AV)
 | _, [] => []
 | i, a :: r => (i, .d a) :: numT (i + 1) r
def resV (S : Tys) (σ : St) : List ResultVar → (List AV → Prop) → Prop
 | [], K => K []
 | .tmp t :: r, K => resV S σ r fun vs => K (σ.get t :: vs)
 | .cell a t :: r, K => match S t, σ.get a with
  | some ti, .ptr b off => match lk σ.bx b with
   | some (.var cs _) => match loadL ti cs off with
    | .ok v _ => resV S σ r fun vs => K (v :: vs)
    | _ => False
   | _ => False
  | _, _ => False
def retOf : List D → D
 | [d] => d
 | ds => .tup ds
def retP (S : Tys) (fn : Func) (ret : D) (σ : St) : Prop := match Nat.beq fn.results.size fn.resultTypes.size with
 | true => resV S σ fn.results.toList fun vs => match frzALK (lk σ.bx) (zipResz S vs fn.resultTypes.toList) (fun ds us => .ok (.d (retOf ds)) us) with
  | .ok (.d r) _ => r = ret
  | _ => False
 | false => False
def endP (S : Tys) (fn : Func) (ret : D) (e : Ex) (σ : St) : Prop := match e with
 | .normal => retP S fn ret σ
 | .ret => retP S fn ret σ
 | .exit _ => False

section
variable {P : Program} {S : Tys} {N : Nat} {w0 : Ent} {A0 : Sta}
def resG (tmps : Array Value) : ResultVar → Sem Value
 | .tmp t => pure (tmps.getD t undef)
 | .cell a t => do loadVar t (← asAddr (tmps.getD a undef))
theorem results_eq (fn : Func) (tmps : Array Value) : results fn tmps = (do
 let vs ← fn.results.toList.mapM (resG tmps)
 pure (if h : vs.toArray.size = 1 then vs.toArray[0] else .tuple vs.toArray)) := by
 have : results fn tmps = (do
  let vs ← fn.results.mapM (resG tmps)
  pure (if h : vs.size = 1 then vs[0] else .tuple vs)) := by
  unfold results
  congr 1
 rw [this, Array.mapM_eq_mapM_toList]
 simp only [bind_map_left]

theorem resV_out (hS : TysOk P S) {σ : St} {L : Lay} {A : Sta} {a : Act} {w : World} (hI : Inv w0 A0 N L A σ.get (lk σ.bx) a w) : ∀ {rs : List ResultVar} {K : List AV → Prop}, resV S σ rs K →
 ∃ (vs : List AV) (us : List Value), K vs ∧ vs.length = rs.length ∧ us.length = vs.length ∧ (rs.mapM (resG a.tmps)).run P w = .ok us w ∧
  ∀ (j : Nat) c u, vs[j]? = some c → us[j]? = some u → RV L w A c u
 | [], K, h => ⟨[], [], h, rfl, rfl, rfl, fun j c u h => by simp at h⟩
 | .tmp t :: r, K, h => by
  obtain ⟨vs, us, h1, h2, h3, h4, h5⟩ := resV_out hS hI (rs := r) h
  refine ⟨_, a.tmps.getD t undef :: us, h1, by simp [h2], by simp [h3], ?_, fun j c u hc hu => ?_⟩
  ·simp only [List.mapM_cons, resG, pure_bind, Sem.run_bind, h4, Result.andThen_ok]
   rfl
  ·cases j with
   | zero =>
    simp only [List.getElem?_cons_zero, Option.some.injEq] at hc hu
    subst hc; subst hu
    exact hI.tm t
   | succ j => exact h5 j c u (by simpa using hc) (by simpa using hu)
 | .cell x t :: r, K, h => by
  simp only [resV] at h
  split at h
  ·rename_i ti b off ht hx
   split at h
   ·rename_i cs fz hb
    split at h
    ·rename_i v ups hv
     obtain ⟨vs, us, h1, h2, h3, h4, h5⟩ := resV_out hS hI (rs := r) h
     have hp := hI.tm x
     rw [hx] at hp
     have hp := rv_ptr hp
     obtain ⟨C, et, c1, c2, c3, _⟩ := hI.bxs b _ hb
     obtain ⟨-, u0, l1, l2⟩ := loadL_sound (oc := none) (hS _ _ ht) (w := w) (L := L) (A := A) (g := L.ι b) (by rw [hv]; exact Out.ok v ups) (fun j c hc => by
      obtain ⟨u, hu⟩ := arr_get (C := C) (j := j) (by rw [c2]; exact lt_of_get hc)
      exact ⟨u, by rw [cell_of_row w (L.ι b) j C et (0, 0) c1]; exact hu, c3 j c u hc hu⟩)
     refine ⟨_, u0 :: us, h1, by simp [h2], by simp [h3], ?_, fun j c u hc hu => ?_⟩
     ·have : (asAddr (a.tmps.getD x undef)).run P w = .ok ⟨L.ι b, off, none⟩ w := by rw [hp]; rfl
      simp only [List.mapM_cons, resG, Sem.run_bind, this, Result.andThen_ok, l1, h4]
      rfl
     ·cases j with
      | zero =>
       simp only [List.getElem?_cons_zero, Option.some.injEq] at hc hu
       subst hc; subst hu
       exact l2
      | succ j => exact h5 j c u (by simpa using hc) (by simpa using hu)
    ·cases h
   ·cases h
  ·cases h

theorem frz_upsR {B : Nat → Option Bx} {T : Nat → AV} {us : List (Nat × Option Bx)} (hf : Frz B us) : ∀ {B0 : Nat → Option Bx}, (∀ b x, B b = some x → ∃ y, B0 b = some y ∧ x.fzd y) →
 (∀ b x b', B b = some x → x.men b' = true → B0 b' ≠ none) → ∃ B1, UpsR none us T B0 T B1 := by
 have go : ∀ {b : Nat} {x x' : Bx} {r : List (Nat × Option Bx)}, B b = some x → (∀ y, x.fzd y → x.fzd x') → (∀ b', x'.men b' = true → x.men b' = true) →
  (∀ {B0 : Nat → Option Bx}, (∀ b x, B b = some x → ∃ y, B0 b = some y ∧ x.fzd y) → (∀ b x b', B b = some x → x.men b' = true → B0 b' ≠ none) → ∃ B1, UpsR none r T B0 T B1) →
  ∀ {B0 : Nat → Option Bx}, (∀ b x, B b = some x → ∃ y, B0 b = some y ∧ x.fzd y) → (∀ b x b', B b = some x → x.men b' = true → B0 b' ≠ none) → ∃ B1, UpsR none ((b, some x') :: r) T B0 T B1 := by
  intro b x x' r hx hxx hmm ih B0 h1 h2
  obtain ⟨y, hy, hf⟩ := h1 b x hx
  obtain ⟨B1, hB1⟩ := ih (B0 := upd B0 b (some x')) (fun b' z hz => by
   by_cases e : b' = b
   ·subst e; rw [hx] at hz; cases hz; exact ⟨x', upd_same _ _ _, hxx y hf⟩
   ·rw [upd_ne _ _ e]; exact h1 b' z hz) (fun b1 z b' hz hm => by
   by_cases e : b' = b
   ·subst e; rw [upd_same]; simp
   ·rw [upd_ne _ _ e]; exact h2 b1 z b' hz hm)
  exact ⟨B1, .set rfl (by rw [hy]; simp) (fun b' hm => h2 b x b' hx (hmm b' hm)) hB1⟩
 induction hf with
 | nil => intro B0 _ _; exact ⟨B0, .nil _ _⟩
 | row h hr ih => intro B0 h1 h2; exact go h (fun _ _ => ⟨true, rfl⟩) (fun _ h => h) ih h1 h2
 | var h hr ih => intro B0 h1 h2; exact go h (fun _ _ => ⟨true, rfl⟩) (fun _ h => h) ih h1 h2
 | arr h hr ih => intro B0 h1 h2; exact go h (fun _ _ => ⟨true, rfl⟩) (fun _ h => h) ih h1 h2
 | mat h hr ih => intro B0 h1 h2; exact go h (fun _ _ => .inr ⟨_, true, rfl, rfl⟩) (fun _ h => by cases h) ih h1 h2

theorem ret_sound (hS : TysOk P S) {fn : Func} {ret : D} {σ : St} {a : Act} {w : World} (hr : Rel w0 A0 N σ a w) (h : retP S fn ret σ) :
 a.defers = [] ∧ ∃ v, (results fn a.tmps).run P w = .ok v w ∧ ∃ A', Rep w A' ret v ∧ BelowE w0 w ∧ (∀ g o, A0 g o → A' g o) ∧ (∀ g o, A' g o → g < w.heap.size) ∧ (∀ g o, A' g o → A0 g o ∨ w0.own g) := by
 obtain ⟨L, A, hI⟩ := hr
 refine ⟨hI.df, ?_⟩
 unfold retP at h
 split at h
 ·rename_i hsz
  have hsz := Nat.eq_of_beq_eq_true hsz
  obtain ⟨vs, us, h1, h2, h3, h4, h5⟩ := resV_out hS hI h
  split at h1
  ·rename_i r ups hfz
   subst h1
   have hz := zipResz_len (S := S) vs fn.resultTypes.toList (by rw [h2]; simpa using hsz)
   obtain ⟨ds, fs, ho, g1, g2, g3⟩ := frzALK_out (oc := none) (P := P) hI (us := us) (v := .d r) (ups := ups) (by rw [hz, h3]) (fun j c u hc hu => by
    obtain ⟨t, x, hx, rfl⟩ := zipResz_get _ _ j c hc
    exact resz_rv (h5 j x u hx hu)) (by rw [hfz]; exact .ok _ _)
   have e : r = retOf ds := by cases ho; rfl
   subst e
   obtain ⟨B1, hB1⟩ := frz_upsR (T := σ.get) g1 idRows hI.clB
   obtain ⟨A', B2, k1, k2, k3, k4, -, -⟩ := frz_ups (rest := []) g1 idRows hI (by simpa using hB1)
   have hv : (results fn a.tmps).run P w = .ok (if h : us.toArray.size = 1 then us.toArray[0] else .tuple us.toArray) w := by
    rw [results_eq]
    simp only [Sem.run_bind, h4, Result.andThen_ok]
    rfl
   refine ⟨_, hv, A', ?_, k2.below, k2.Aold, k2.Aok, k2.Afr⟩
   have reps := g3 A' k1 k4
   match ds, us, g2, reps with
   | [d], [u], _, reps => exact reps 0 d u rfl rfl
   | [], [], _, reps => exact .tup rfl fun j c v hc => by simp at hc
   | d :: d' :: ds, u :: u' :: us, g2, reps =>
    have : ¬ (u :: u' :: us).toArray.size = 1 := by simp
    rw [dif_neg this]
    exact .tup (by simpa using g2) fun j c v hc hv => reps j c v hc (by simpa using hv)
  ·cases h1
 ·cases h

theorem numT_get : ∀ (args : List D) (i t : Nat), lk (numT i args) t = if i ≤ t then (args[t - i]?).map .d else none
 | [], i, t => by simp [numT, lk]
 | a :: r, i, t => by
  simp only [numT, lk_cons, numT_get r (i + 1) t]
  by_cases e : t = i
  ·subst e; simp
  ·rw [if_neg e]
   by_cases h : i ≤ t
   ·rw [if_pos h, if_pos (by omega), show t - i = (t - (i + 1)) + 1 by omega, List.getElem?_cons_succ]
   ·rw [if_neg h, if_neg (by omega)]

def Ent.plain (w : World) (L : Lay) (hg : GOk w.heap.size w) : Ent := ⟨w, fun _ => False, w.heap.size, L, Nat.le_refl _, fun _ h => h.elim, hg⟩
def lay0 : Lay := ⟨fun _ => 0, fun _ => undef, fun _ _ _ => undef, fun _ => 0⟩
theorem ev_of_awp (hS : TysOk P S) (hm : P.follows .mixedOrders = true) {f : FuncId} {fn : Func} {c : Code} {args : List D} {ret : D} (hf : P.funcs[f]? = some fn) (hb : fn.body = some c)
 (hn : (fn.name == "runtime.NumGoroutine") = false) (hlen : Nat.ble args.length fn.ntmps = true) (h : awp P S fn.ntmps c (endP S fn ret) ⟨numT 0 args, []⟩) : Ev P f args ret := by
 refine ⟨⟨fn, hf, hn, by rw [hb]; rfl⟩, fun w A vals hg hA hsz hreps => ?_⟩
 have hlen := Nat.le_of_ble_eq_true hlen
 refine calls_of_wp hf hb ?_
 have hI : Inv (Ent.plain w lay0 hg) A fn.ntmps lay0 A (St.get ⟨numT 0 args, []⟩) (lk []) { tmps := vals ++ Array.replicate (fn.ntmps - vals.size) undef, defers := [] } w := by
  refine ⟨⟨rfl, .rfl', rfl, Nat.le_refl _, fun _ _ _ => rfl⟩, fun _ _ _ => .rfl', rfl, by simp; omega, hA, fun _ _ h => h, fun _ _ _ => rfl, fun _ _ h => .inl h, fun t => ?_, fun b x hx => by simp [lk] at hx, fun b x g hx => by simp [lk] at hx, fun b b' x x' g hx => by simp [lk] at hx, fun t b hm => ?_, fun b x b' hx => by simp [lk] at hx⟩
  ·simp only [St.get, numT_get, Nat.zero_le, if_true, Nat.sub_zero]
   cases ht : args[t]? with
   | none => exact .junk _
   | some d =>
    have hlt : t < vals.size := by rw [← hsz]; exact lt_of_get ht
    refine .d (hreps t d _ ht ?_)
    simp only [Array.getD_eq_getD_getElem?, Array.getElem?_append, if_pos hlt]
    rw [Array.getElem?_eq_getElem hlt]
    rfl
  ·simp only [St.get, numT_get, Nat.zero_le, if_true, Nat.sub_zero] at hm
   cases ht : args[t]? with
   | none => rw [ht] at hm; cases hm
   | some d => rw [ht] at hm; cases hm
 refine awp_sound hS hm c h ⟨_, _, hI⟩ fun e σ' a' w' hr hk => ?_
 have fin : retP S fn ret σ' → a'.defers = [] ∧ ∃ v, (results fn a'.tmps).run P w' = .ok v w' ∧ ∃ v_1 A', Ending.returned v = .returned v_1 ∧ Rep w' A' ret v_1 ∧ BelowD w w' ∧
  (∀ g o, A g o → A' g o) ∧ (∀ g o, A' g o → g < w'.heap.size) ∧ (∀ g o, A' g o → A g o ∨ w.heap.size ≤ g) := by
  intro hret
  obtain ⟨h1, v, h2, A', h3, h4, h5, h6, h7⟩ := ret_sound hS hr hret
  refine ⟨h1, v, h2, v, A', rfl, h3, ⟨⟨h4.os, h4.tape.1, h4.output, h4.size, fun k hk => h4.block k hk id⟩, h4.tape.2⟩, h5, h6, fun g o hg => ?_⟩
  rcases h7 g o hg with h | h | h
  ·exact .inl h
  ·exact .inr h
  ·exact h.elim
 cases e with
 | normal => exact fin hk
 | ret => exact fin hk
 | exit i => cases hk

/-! The same for calls that are handed boxes. -/
def numX : Nat → List AV → List (Nat × AV)
 | _, [] => []
 | i, a :: r => (i, a) :: numX (i + 1) r
def tupOf : List AV → AV
 | [v] => v
 | vs => .tup vs
structure RetX (V : AV) (σ : St) (v : AV) (us : List (Nat × Bx)) : Prop where
 out : ∃ rn, Le ⟨[(0, V)], σ.bx⟩ ⟨[(0, v)], us⟩ rn
 ok : V.okIn σ.bx = true
def retX (S : Tys) (fn : Func) (v : AV) (us : List (Nat × Bx)) (σ : St) : Prop := match Nat.beq fn.results.size fn.resultTypes.size with
 | true => resV S σ fn.results.toList fun vs => RetX (tupOf (zipResz S vs fn.resultTypes.toList)) σ v us
 | false => False
def endX (S : Tys) (fn : Func) (v : AV) (us : List (Nat × Bx)) (e : Ex) (σ : St) : Prop := match e with
 | .normal => retX S fn v us σ
 | .ret => retX S fn v us σ
 | .exit _ => False
theorem numX_get : ∀ (args : List AV) (i t : Nat), lk (numX i args) t = if i ≤ t then args[t - i]? else none
 | [], i, t => by simp [numX, lk]
 | a :: r, i, t => by
  simp only [numX, lk_cons, numX_get r (i + 1) t]
  by_cases e : t = i
  ·subst e; simp
  ·rw [if_neg e]
   by_cases h : i ≤ t
   ·rw [if_pos h, if_pos (by omega), show t - i = (t - (i + 1)) + 1 by omega, List.getElem?_cons_succ]
   ·rw [if_neg h, if_neg (by omega)]
def pinAll : List (Nat × Bx) → Bool
 | [] => true
 |(b, _) :: r => match pinned b with
  | true => pinAll r
  | false => false
theorem pinAll_get : ∀ {l : List (Nat × Bx)}, pinAll l = true → ∀ b, lk l b ≠ none → pinned b = true
 | [], _, b, h => absurd rfl h
 |(k, x) :: r, hl, b, h => by
  simp only [pinAll] at hl
  split at hl
  ·rename_i hk
   rw [lk_cons] at h
   split at h
   ·rename_i e; rw [e]; exact hk
   ·exact pinAll_get hl b h
  ·cases hl

theorem evx_of_awp (hS : TysOk P S) (hm : P.follows .mixedOrders = true) {f : FuncId} {fn : Func} {c : Code} {xs : List AV} {hs us : List (Nat × Bx)} {v : AV} (hf : P.funcs[f]? = some fn) (hb : fn.body = some c)
 (hn : (fn.name == "runtime.NumGoroutine") = false) (hlen : (Nat.ble xs.length fn.ntmps && pinAll hs) = true) (h : awp P S fn.ntmps c (endX S fn v us) ⟨numX 0 xs, hs⟩) : EvX P f xs hs v us := by
 refine ⟨⟨fn, hf, hn, by rw [hb]; rfl⟩, fun B0 w A L vals hB0 hg hA hsz hreps hmen hH => ?_⟩
 rw [Bool.and_eq_true] at hlen
 obtain ⟨hlen, hpin⟩ := hlen
 have hlen := Nat.le_of_ble_eq_true hlen
 refine calls_of_wp hf hb ?_
 let e0 : Ent := ⟨w, claims L hs, B0, L, hB0, fun k hk => by obtain ⟨b, x, h1, h2⟩ := hk; exact (hH.lo b x k h1 h2).1, hg⟩
 have hI : Inv e0 A fn.ntmps L A (St.get ⟨numX 0 xs, hs⟩) (lk hs) { tmps := vals ++ Array.replicate (fn.ntmps - vals.size) undef, defers := [] } w := by
  refine ⟨⟨rfl, .rfl', rfl, Nat.le_refl _, fun _ _ _ => rfl⟩, fun _ _ _ => .rfl', rfl, by simp; omega, hA, fun _ _ h => h, fun _ _ _ => rfl, fun _ _ h => .inl h, fun t => ?_, hH.br, fun b x g hx hg => ⟨.inr ⟨b, x, hx, hg⟩, (hH.lo b x g hx hg).2⟩, hH.inj, fun t b hm => ?_, hH.cl⟩
  ·simp only [St.get, numX_get, Nat.zero_le, if_true, Nat.sub_zero]
   cases ht : xs[t]? with
   | none => exact .junk _
   | some d =>
    have hlt : t < vals.size := by rw [← hsz]; exact lt_of_get ht
    refine hreps t d _ ht ?_
    simp only [Array.getD_eq_getD_getElem?, Array.getElem?_append, if_pos hlt]
    rw [Array.getElem?_eq_getElem hlt]
    rfl
  ·simp only [St.get, numX_get, Nat.zero_le, if_true, Nat.sub_zero] at hm
   cases ht : xs[t]? with
   | none => rw [ht] at hm; cases hm
   | some d => rw [ht] at hm; exact hmen t d b ht hm
 refine awp_sound hS hm c h ⟨_, _, hI⟩ fun e σ' a' w' hr hk => ?_
 have fin : retX S fn v us σ' → a'.defers = [] ∧ ∃ u, (results fn a'.tmps).run P w' = .ok u w' ∧ ∃ u1 A' L', Ending.returned u = .returned u1 ∧ RV L' w' A' v u1 ∧ w'.os = w.os ∧ TapeOn w w' ∧ w'.output = w.output ∧ w.heap.size ≤ w'.heap.size ∧
  (∀ k, k < w.heap.size → ¬ claims L hs k → w'.heap[k]? = w.heap[k]?) ∧ (∀ g o, A g o → A' g o) ∧ (∀ g o, A g o → w'.cell? ⟨g, o, none⟩ = w.cell? ⟨g, o, none⟩) ∧ (∀ g o, A' g o → g < w'.heap.size) ∧
  (∀ g o, A' g o → A g o ∨ w.heap.size ≤ g ∨ claims L hs g) ∧ HOk B0 L' w' A' us ∧ (∀ g, claims L' us g → w.heap.size ≤ g ∨ claims L hs g) ∧ (∀ b, lk hs b ≠ none → lk us b ≠ none → L'.eqAt L b) ∧
  (∀ b, v.men b = true → lk us b ≠ none) := by
  intro hret
  obtain ⟨L1, A1, hI1⟩ := hr
  refine ⟨hI1.df, ?_⟩
  unfold retX at hret
  split at hret
  ·rename_i hsz
   have hsz := Nat.eq_of_beq_eq_true hsz
   obtain ⟨vs, uv, h1, h2, h3, h4, h5⟩ := resV_out hS hI1 hret
   obtain ⟨⟨rn, hle⟩, hok⟩ := h1
   have hz := zipResz_len (S := S) vs fn.resultTypes.toList (by rw [h2]; simpa using hsz)
   have hv : (results fn a'.tmps).run P w' = .ok (if h : uv.toArray.size = 1 then uv.toArray[0] else .tuple uv.toArray) w' := by
    rw [results_eq]
    simp only [Sem.run_bind, h4, Result.andThen_ok]
    rfl
   have hrv : RV L1 w' A1 (tupOf (zipResz S vs fn.resultTypes.toList)) (if h : uv.toArray.size = 1 then uv.toArray[0] else .tuple uv.toArray) := by
    have reps : ∀ (j : Nat) c u, (zipResz S vs fn.resultTypes.toList)[j]? = some c → uv[j]? = some u → RV L1 w' A1 c u := by
     intro j c u hc hu
     obtain ⟨t, x, hx, rfl⟩ := zipResz_get _ _ j c hc
     exact resz_rv (h5 j x u hx hu)
    generalize hzs : zipResz S vs fn.resultTypes.toList = zs at reps hz
    have hl : zs.length = uv.length := by omega
    match zs, uv, hl, reps with
    | [d], [u], _, reps => exact reps 0 d u rfl rfl
    | [], [], _, reps => exact .tup rfl fun j c v hc => by simp at hc
    | d :: d' :: ds, u :: u' :: us, hl, reps =>
     have : ¬ (u :: u' :: us).toArray.size = 1 := by simp
     rw [dif_neg this]
     exact .tup (by simpa using hl) fun j c v hc hv => reps j c v hc (by simpa using hv)
   generalize (if h : uv.toArray.size = 1 then uv.toArray[0] else Value.tuple uv.toArray) = u at hv hrv
   have hI2 : Inv e0 A 1 L1 A1 (St.get ⟨[(0, tupOf (zipResz S vs fn.resultTypes.toList))], σ'.bx⟩) (lk σ'.bx) { a' with tmps := #[u] } w' := by
    refine { hI1 with size := rfl, df := hI1.df, tm := fun t => ?_, clT := fun t b hm => ?_ }
    ·simp only [St.get, lk_cons]
     by_cases e : t = 0
     ·subst e; exact hrv
     ·rw [if_neg e]; exact .junk _
    ·simp only [St.get, lk_cons] at hm
     by_cases e : t = 0
     ·rw [if_pos e] at hm; exact okIn_men hok hm
     ·rw [if_neg e] at hm; cases hm
   obtain ⟨L2, A2, hI3⟩ := le_sound hle ⟨L1, A1, hI2⟩
   have hv2 := hI3.tm 0
   refine ⟨u, hv, u, A2, L2, rfl, hv2, hI3.below.os, hI3.below.tape, hI3.below.output, hI3.below.size, fun k hk hc => hI3.below.block k hk hc, hI3.Aold, hI3.Acl, hI3.Aok, fun g o hg => ?_, ⟨hI3.bxs, fun b x g hx hg => ?_, hI3.inj, hI3.clB⟩, fun g hg => ?_, fun b hb hb' => hI3.pin b (pinAll_get hpin b hb) hb', fun b hb => hI3.clT 0 b hb⟩
   ·exact hI3.Afr g o hg
   ·have := hI3.lo b x g hx hg
    exact ⟨Ent.own_le this.1, this.2⟩
   ·obtain ⟨b, x, hx, ho⟩ := hg
    exact (hI3.lo b x g hx ho).1
  ·cases hret
 cases e with
 | normal => exact fin hk
 | ret => exact fin hk
 | exit i => cases hk
end
end Go.Vm
end

section
/- Little lemmas for walking. -/
namespace Go.Vm
theorem Split.dec {p : Prop} {i : Decidable p} {A B : Prop} (h1 : p → A) (h2 : ¬ p → B) : Split (@decide p i) A B :=
 ⟨fun h => h1 (of_decide_eq_true h), fun h => h2 (of_decide_eq_false h)⟩
theorem Split.neg {b : Bool} {A B : Prop} (h : Split b B A) : Split (!b) A B :=
 ⟨fun e => h.no (by cases b <;> simp_all), fun e => h.yes (by cases b <;> simp_all)⟩
theorem Split.eqz {a b : Int} {A B : Prop} (h1 : a = b → A) (h2 : a ≠ b → B) : Split (a == b) A B :=
 ⟨fun h => h1 (by simpa using h), fun h => h2 (by simpa using h)⟩
theorem Split.nez {a b : Int} {A B : Prop} (h1 : a ≠ b → A) (h2 : a = b → B) : Split (a != b) A B :=
 ⟨fun h => h1 (by simpa using h), fun h => h2 (by simpa using h)⟩
theorem Split.is_true {b : Bool} {A B : Prop} (h : b = true) (a : A) : Split b A B := by subst h; exact .of_true a
theorem Split.is_false {b : Bool} {A B : Prop} (h : b = false) (a : B) : Split b A B := by subst h; exact .of_false a
theorem Split.and {a b : Bool} {A B : Prop} (h : Split a (Split b A B) B) : Split (a && b) A B :=
 ⟨fun e => by simp only [Bool.and_eq_true] at e; exact (h.yes e.1).yes e.2, fun e => by
  cases ha : a with
  | false => exact h.no ha
  | true => exact (h.yes ha).no (by rw [ha] at e; exact e)⟩
theorem Split.or {a b : Bool} {A B : Prop} (h : Split a A (Split b A B)) : Split (a || b) A B :=
 ⟨fun e => by
  cases ha : a with
  | true => exact h.yes ha
  | false => exact (h.no ha).yes (by rw [ha] at e; exact e), fun e => by simp only [Bool.or_eq_false_iff] at e; exact (h.no e.1).no e.2⟩
theorem toList_loop (s : ByteArray) : ∀ (n i : Nat) (r : List UInt8), n = s.size - i → ByteArray.toList.loop s i r = r.reverse ++ s.data.toList.drop i
 | 0, i, r, h => by
  have : s.size ≤ i := by omega
  rw [ByteArray.toList.loop.eq_1, if_neg (by omega), List.drop_eq_nil_of_le (by simpa using this)]
  simp
 | n + 1, i, r, h => by
  have hi : i < s.size := by omega
  rw [ByteArray.toList.loop.eq_1, if_pos hi, toList_loop s n (i + 1) _ (by omega)]
  have : i < s.data.toList.length := by simpa using hi
  rw [List.drop_eq_getElem_cons this]
  simp only [ByteArray.get!, List.reverse_cons, List.append_assoc, List.cons_append, List.nil_append]
  rw [getElem!_pos s.data i hi]
  rfl
theorem toList_eq (s : ByteArray) : s.toList = s.data.toList := by
 rw [ByteArray.toList, toList_loop s _ 0 [] rfl]; simp
theorem toList_inj {s t : ByteArray} (h : s.toList = t.toList) : s = t := by
 rw [toList_eq, toList_eq] at h
 cases s; cases t
 simp only [Array.toList_inj] at h
 subst h; rfl
theorem Split.streq {s t : ByteArray} {A B : Prop} (h1 : s = t → A) (h2 : s ≠ t → B) : Split (s.toList == t.toList) A B :=
 ⟨fun h => h1 (toList_inj (by simpa using h)), fun h => h2 (by rintro rfl; simp at h)⟩
theorem shrZ_one (a : Int) : shrZ a 1 = a / 2 := rfl
theorem Wr.inu {n : Int} {k : Int → Prop} (h : 0 ≤ n ∧ n ≤ 18446744073709551615) (r : k n) : Wr .u64 n k := ⟨n, by
 simp only [IntKind.wrap, IntKind.bits, IntKind.signed]; simp; omega, r⟩
theorem PickE.map {α : Type} {f : α → D} {l : List α} {j : Nat} (i : Nat) {m : α} {k : D → Prop} (h : l[i]? = some m) (hj : j = i) (r : k (f m)) : PickE (l.map f) j k :=
 ⟨f m, by rw [hj, List.getElem?_map, h]; rfl, r⟩
theorem some_of_lt {α : Type} {l : List α} {i : Nat} (h : i < l.length) : ∃ m, l[i]? = some m := ⟨l[i], List.getElem?_eq_getElem h⟩
theorem drop_of {α : Type} {l : List α} {i : Nat} {m : α} (h : l[i]? = some m) : l.drop i = m :: l.drop (i + 1) := by
 obtain ⟨h1, h2⟩ := List.getElem?_eq_some_iff.1 h
 rw [← h2]
 exact List.drop_eq_getElem_cons h1
end Go.Vm
end

section
/- Loops: the state at a loop's head, most of it kept from the state before. -/
namespace Go.Vm
def hasK {α : Type} : List (Nat × α) → Nat → Bool
 | [], _ => false
 |(k, _) :: r, j => match Nat.beq k j with
  | true => true
  | false => hasK r j
def anyM (db : List Nat) : List Nat → Bool
 | [] => false
 | b :: r => match memN b db with
  | true => true
  | false => anyM db r
def okV (db : List Nat) : AV → Bool
 | .d _ => true
 | .junk => false
 | .undef => false
 | .nil _ => true
 | .sub _ _ _ => false
 | .mptr _ _ _ _ => false
 | .mp b => match memN b db with
  | true => false
  | false => true
 | .view b _ _ _ => match memN b db with
  | true => false
  | false => true
 | .tup _ => false
 | .agg cs => match anyM db (AV.mensL cs), cs.all AV.one with
  | false, true => true
  | _, _ => false
 | .fnv _ cs => match anyM db (capMens cs) with
  | true => false
  | false => true
 | .ptr b _ => match memN b db with
  | true => false
  | false => true
 | .eptr b _ _ _ => match memN b db with
  | true => false
  | false => true
 | .sptr b _ _ _ => match memN b db with
  | true => false
  | false => true
 | .own b _ _ => match memN b db with
  | true => false
  | false => true
def keepT (m : Nat) (db : List Nat) (ch : List (Nat × AV)) (t : Nat) (v : AV) : Bool := match bitM m t with
 | true => false
 | false => match hasK ch t with
  | true => false
  | false => okV db v
def keepB (db : List Nat) (ch : List (Nat × Bx)) (b : Nat) : Bool := match memN b db with
 | true => false
 | false => match hasK ch b with
  | true => false
  | false => true
def fltT (m : Nat) (db : List Nat) (ch : List (Nat × AV)) : List (Nat × AV) → List (Nat × AV)
 | [] => []
 |(t, v) :: r => match keepT m db ch t v with
  | true => (t, v) :: fltT m db ch r
  | false => fltT m db ch r
def fltTK {β : Type} (m : Nat) (db : List Nat) (ch : List (Nat × AV)) : List (Nat × AV) → (List (Nat × AV) → β) → β
 | [], k => k []
 |(t, v) :: r, k => match keepT m db ch t v with
  | true => fltTK m db ch r fun r' => k ((t, v) :: r')
  | false => fltTK m db ch r k
def fltB (db : List Nat) (ch : List (Nat × Bx)) : List (Nat × Bx) → List (Nat × Bx)
 | [] => []
 |(t, v) :: r => match keepB db ch t with
  | true => (t, v) :: fltB db ch r
  | false => fltB db ch r
def fltBK {β : Type} (db : List Nat) (ch : List (Nat × Bx)) : List (Nat × Bx) → (List (Nat × Bx) → β) → β
 | [], k => k []
 |(t, v) :: r, k => match keepB db ch t with
  | true => fltBK db ch r fun r' => k ((t, v) :: r')
  | false => fltBK db ch r k
def appK {α β : Type} : List α → List α → (List α → β) → β
 | [], l, k => k l
 | a :: r, l, k => appK r l fun l' => k (a :: l')
theorem appK_eq {α β : Type} : ∀ (a l : List α) (k : List α → β), appK a l k = k (a ++ l)
 | [], _, _ => rfl
 | _ :: r, l, _ => appK_eq r l _
theorem fltTK_eq {β : Type} (m : Nat) (db : List Nat) (ch : List (Nat × AV)) : ∀ (l : List (Nat × AV)) (k : List (Nat × AV) → β), fltTK m db ch l k = k (fltT m db ch l)
 | [], _ => rfl
 |(t, v) :: r, k => by
  simp only [fltTK, fltT]
  cases keepT m db ch t v with
  | true => exact fltTK_eq m db ch r _
  | false => exact fltTK_eq m db ch r _
theorem fltBK_eq {β : Type} (db : List Nat) (ch : List (Nat × Bx)) : ∀ (l : List (Nat × Bx)) (k : List (Nat × Bx) → β), fltBK db ch l k = k (fltB db ch l)
 | [], _ => rfl
 |(t, v) :: r, k => by
  simp only [fltBK, fltB]
  cases keepB db ch t with
  | true => exact fltBK_eq db ch r _
  | false => exact fltBK_eq db ch r _
def ovr (m : Nat) (db : List Nat) (σ : St) (ch : List (Nat × AV)) (chb : List (Nat × Bx)) : St := ⟨ch ++ fltT m db ch σ.T, chb ++ fltB db chb σ.bx⟩
def ovrK (m : Nat) (db : List Nat) (σ : St) (ch : List (Nat × AV)) (chb : List (Nat × Bx)) (k : St → Prop) : Prop :=
 fltTK m db ch σ.T fun T => appK ch T fun T' => fltBK db chb σ.bx fun B => appK chb B fun B' => k ⟨T', B'⟩
theorem ovrK_eq {m : Nat} {db : List Nat} {σ : St} {ch : List (Nat × AV)} {chb : List (Nat × Bx)} {k : St → Prop} : ovrK m db σ ch chb k = k (ovr m db σ ch chb) := by
 unfold ovrK ovr
 rw [fltTK_eq, appK_eq, fltBK_eq, appK_eq]
def rnOf (σ : St) : List (Nat × AV) → List (Nat × Option Nat)
 | [] => []
 |(t, v) :: r => match v with
  | .own b _ _ => match σ.get t with
   | .own b' _ _ => (b, some b') :: rnOf σ r
   | .nil _ => (b, none) :: rnOf σ r
   | _ => rnOf σ r
  | .ptr b _ => match σ.get t with
   | .ptr b' _ => (b, some b') :: rnOf σ r
   | _ => rnOf σ r
  | .mp b => match σ.get t with
   | .mp b' => (b, some b') :: rnOf σ r
   | _ => rnOf σ r
  | _ => rnOf σ r
def rnPair : List AV → List AV → List (Nat × Option Nat)
 | u :: us, v :: vs => match v with
  | .own b _ _ => match u with
   | .own b' _ _ => (b, some b') :: rnPair us vs
   | .nil _ => (b, none) :: rnPair us vs
   | _ => rnPair us vs
  | _ => rnPair us vs
 | _, _ => []
def rnBx (σ : St) : List (Nat × Bx) → List (Nat × Option Nat)
 | [] => []
 |(b, x) :: r => match x with
  | .var cs _ => match lk σ.bx b with
   | some (.var cs' _) => rnPair cs' cs ++ rnBx σ r
   | _ => rnBx σ r
  | _ => rnBx σ r
theorem LoopK.ov {W : (Ex → St → Prop) → St → Prop} {K : Ex → St → Prop} {σ : St} {m : Nat} {ι : Type} (I : ι → Prop) (ch : ι → List (Nat × AV)) (db : List Nat) (chb : ι → List (Nat × Bx)) (μ : ι → Nat) (i0 : ι)
 (hi0 : I i0) (h0 : Le σ (ovr m db σ (ch i0) (chb i0)) (rnOf σ (ch i0) ++ rnBx σ (chb i0)))
 (round : ∀ i, I i → ovrK m db σ (ch i) (chb i) (W (fun e σ' => match e with
   | .normal => Again I (fun i => ovr m db σ (ch i) (chb i)) (fun i' => μ i' < μ i) σ'
   | e => K e σ'))) : LoopK W K σ m :=
 .mk I (fun i => ovr m db σ (ch i) (chb i)) μ i0 _ hi0 h0 fun i hi => by
  have := round i hi
  rw [ovrK_eq] at this
  exact this
theorem Again.au {ι : Type} {I : ι → Prop} {m : Nat} {db : List Nat} {σ0 σ : St} {ch : ι → List (Nat × AV)} {chb : ι → List (Nat × Bx)} {less : ι → Prop} (i' : ι) (hi : I i') (hm : less i')
 (hl : Le σ (ovr m db σ0 (ch i') (chb i')) (rnOf σ (ch i') ++ rnBx σ (chb i'))) : Again I (fun i => ovr m db σ0 (ch i) (chb i)) less σ := .mk i' _ hi hm hl
theorem map_snoc {α : Type} {f : α → D} {l : List α} {a : α} {z : D} : l.map f ++ f a :: List.replicate 0 z = (l ++ [a]).map f := by simp
theorem own_congr {b sz n n' : Nat} (h : n = n') : AV.own b sz n = AV.own b sz n' := by rw [h]
theorem int_congr {k : IntKind} {n n' : Int} (h : n = n') : AV.d (.int k n) = AV.d (.int k n') := by rw [h]
theorem nil_or_snoc {α : Type} (l : List α) : l = [] ∨ ∃ r a, l = r ++ [a] := by
 rcases List.eq_nil_or_concat l with h | ⟨r, a, h⟩
 ·exact .inl h
 ·exact .inr ⟨r, a, by rw [h, List.concat_eq_append]⟩
end Go.Vm
end

section
/- More little lemmas for walking: loops that drop a slice's old name; quotients of numbers that are not negative. -/
namespace Go.Vm
def dropOf (σ : St) : List (Nat × AV) → List Nat
 | [] => []
 |(t, v) :: r => match v with
  | .own b _ _ => match σ.get t with
   | .own b' _ _ => match Nat.beq b b' with
    | true => dropOf σ r
    | false => b' :: dropOf σ r
   | _ => dropOf σ r
  | _ => dropOf σ r
theorem LoopK.o2 {W : (Ex → St → Prop) → St → Prop} {K : Ex → St → Prop} {σ : St} {m : Nat} {ι : Type} (I : ι → Prop) (ch : ι → List (Nat × AV)) (chb : ι → List (Nat × Bx)) (μ : ι → Nat) (i0 : ι)
 (hi0 : I i0) (h0 : Le σ (ovr m (dropOf σ (ch i0)) σ (ch i0) (chb i0)) (rnOf σ (ch i0) ++ rnBx σ (chb i0)))
 (round : ∀ i, I i → ovrK m (dropOf σ (ch i0)) σ (ch i) (chb i) (W (fun e σ' => match e with
   | .normal => Again I (fun i => ovr m (dropOf σ (ch i0)) σ (ch i) (chb i)) (fun i' => μ i' < μ i) σ'
   | e => K e σ'))) : LoopK W K σ m := LoopK.ov I ch _ chb μ i0 hi0 h0 round
theorem Wr.quo {a b : Int} {k : Int → Prop} (ha : 0 ≤ a) (hb : 0 < b) (hm : a ≤ 9223372036854775807) (r : k (a / b)) : Wr .i64 (a.tdiv b) k := by
 have e : a.tdiv b = a / b := Int.tdiv_eq_ediv_of_nonneg ha
 have h1 : 0 ≤ a / b := Int.ediv_nonneg ha (by omega)
 have h2 : a / b ≤ a := Int.ediv_le_self b ha
 exact ⟨a / b, by rw [e]; exact wrap_in (by omega), r⟩
theorem lt_of_some {α : Type} {l : List α} {i : Nat} {a : α} (h : l[i]? = some a) : i < l.length := (List.getElem?_eq_some_iff.1 h).1
end Go.Vm
end
