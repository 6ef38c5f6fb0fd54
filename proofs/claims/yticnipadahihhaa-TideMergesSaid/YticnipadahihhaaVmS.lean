/- Regions that draw their order, second part: one walk in the order of the text stands for every order. -/
import Derived.Test.YticnipadahihhaaVmR
namespace Go.Vm
open Go.RowKit (Below)
section
variable {P : Program} {S : Tys} {N : Nat} {all : List Oper}

inductive Run (P : Program) (S : Tys) (N : Nat) (all : List Oper) : List (Nat × Oper × Lab) → (Nat → AV) → (Nat → Option Bx) → (Nat → AV) → (Nat → Option Bx) → Prop
  | nil (T B) : Run P S N all [] T B T B
  | cons {x r T B T1 B1 T2 B2} (h : FStep P S N all x.2.1 x.2.2 T B T1 B1) (k : Run P S N all r T1 B1 T2 B2) : Run P S N all (x :: r) T B T2 B2

theorem Run.front {x : Nat × Oper × Lab} {post : List (Nat × Oper × Lab)} : ∀ {pre : List (Nat × Oper × Lab)} {T B T' B'},
    (∀ p ∈ pre, apartL all p.2.1 x.2.1 = true ∧ okPair p.2.2 x.2.2 = true) → Run P S N all (pre ++ x :: post) T B T' B' → Run P S N all (x :: (pre ++ post)) T B T' B'
  | [], _, _, _, _, _, r => r
  | p :: pre, _, _, _, _, h, r => by
    cases r with
    | cons h1 r1 =>
      have hp := h p List.mem_cons_self
      have := Run.front (pre := pre) (fun q hq => h q (List.mem_cons_of_mem _ hq)) r1
      cases this with
      | cons h2 r2 =>
        obtain ⟨Tm, Bm, h2', h1'⟩ := swap hp.1 hp.2 h1 h2
        exact .cons h2' (.cons h1' r2)

variable {w0 : Ent} {A0 : Sta}
theorem wantF_sound {ops : Array Oper} {o : Oper} {L : Lay} {A : Sta} {T : Nat → AV} {B : Nat → Option Bx} {a : Act} {w : World} (hI : Inv w0 A0 N L A T B a w) :
    (wantF ops.toList o T = .go → Region.wanted o (yielded ops a.tmps) = true) ∧ (wantF ops.toList o T = .skip → Region.wanted o (yielded ops a.tmps) = false) := by
  unfold wantF Region.wanted
  cases hg : o.guard with
  | none => exact ⟨fun _ => rfl, (fun h => by cases h)⟩
  | some jw =>
    obtain ⟨j, want⟩ := jw
    have hd : dstOf ops.toList j = (ops[j]?).bind (·.dst) := by
      simp only [dstOf, Array.getElem?_toList]
      cases ops[j]? <;> rfl
    simp only
    rw [hd]
    unfold yielded
    cases hj : (ops[j]?).bind (·.dst) with
    | none => exact ⟨(fun h => by cases h), fun _ => by simp⟩
    | some t =>
      simp only [Option.bind_some]
      have htm := hI.tm t
      split
      · rename_i b hb
        rw [hb] at htm
        have hv := rv_bool htm
        have hval : a.tmps[t]? = some (.bool b) := by
          rw [Array.getD_eq_getD_getElem?] at hv
          cases hq : a.tmps[t]? with
          | none => rw [hq] at hv; cases hv
          | some z => rw [hq] at hv; simp only [Option.getD_some] at hv; rw [hv]
        rw [hval]
        cases b <;> cases want <;> simp
      · rename_i hb
        rw [hb] at htm
        refine ⟨(fun h => by cases h), fun _ => ?_⟩
        have hv : a.tmps.getD t undef = undef := by
          generalize a.tmps.getD t undef = z at htm
          cases htm; rfl
        rw [Array.getD_eq_getD_getElem?] at hv
        cases hq : a.tmps[t]? with
        | none => simp
        | some z => rw [hq] at hv; simp only [Option.getD_some] at hv; subst hv; simp [undef]
      · exact ⟨(fun h => by cases h), (fun h => by cases h)⟩

theorem fstep_sound (hS : TysOk P S) {ops : Array Oper} {Q : Exit → Act → World → Prop} {i : Nat} {o : Oper} {l : Lab} (hi : ops[i]? = some o) {L : Lay} {A : Sta} {T T' : Nat → AV} {B B' : Nat → Option Bx} {a : Act} {w : World}
    (h : FStep P S N ops.toList o l T B T' B') (hI : Inv w0 A0 N L A T B a w) {K : Act → World → Prop} (hK : ∀ L A a' w', Inv w0 A0 N L A T' B' a' w' → K a' w') : wpOp P ops Q i K a w := by
  obtain ⟨v, ups, hs, hk, hu, hp, rfl, -⟩ := h
  obtain ⟨w1, w2⟩ := wantF_sound (ops := ops) (o := o) hI
  unfold wpOp
  rw [hi]
  rcases hs with ⟨hw, ho⟩ | ⟨hw, rfl, rfl⟩
  · simp only [w1 hw, if_true]
    exact .inl ((op_sound hS o).run rfl hI (ho.any _) hu hp hK)
  · simp only [w2 hw, Bool.false_eq_true, if_false]
    exact hK _ _ _ _ (undef_fin hI hp)

theorem mem_onsOf {j : Nat} : ∀ {l : List Edge}, j ∈ onsOf l ↔ ∃ e ∈ l, Region.binds .any e = true ∧ e.on = j
  | [] => by simp [onsOf]
  | e :: l => by
    simp only [onsOf]
    cases h : Region.binds .any e with
    | true =>
      simp only [List.mem_cons, mem_onsOf (l := l)]
      constructor
      · rintro (rfl | ⟨e', h1, h2⟩)
        · exact ⟨e, .inl rfl, h, rfl⟩
        · exact ⟨e', .inr h1, h2⟩
      · rintro ⟨e', rfl | h1, h2, h3⟩
        · exact .inl h3.symm
        · exact .inr ⟨e', h1, h2, h3⟩
    | false =>
      simp only [List.mem_cons, mem_onsOf (l := l)]
      constructor
      · rintro ⟨e', h1, h2⟩
        exact ⟨e', .inr h1, h2⟩
      · rintro ⟨e', rfl | h1, h2, h3⟩
        · rw [h] at h2; cases h2
        · exact ⟨e', h1, h2, h3⟩
theorem mem_ready {ops : Array Oper} {listed : Array Bool} (hsz : listed.size = ops.size) {i : Nat} : i ∈ Region.ready .any ops listed ↔ listed[i]? = some false ∧ ∃ o, ops[i]? = some o ∧ ∀ j ∈ onsOf o.after.toList, listed[j]? = some true := by
  simp only [Region.ready, List.mem_filter, List.mem_range, Bool.and_eq_true, Bool.not_eq_true']
  constructor
  · rintro ⟨h1, h2, h3⟩
    have hl : i < listed.size := by omega
    have e : ops[i]? = some ops[i] := Array.getElem?_eq_getElem h1
    refine ⟨?_, ops[i], e, fun j hj => ?_⟩
    · rw [Array.getD_eq_getD_getElem?] at h2
      rw [Array.getElem?_eq_getElem hl] at h2 ⊢
      simpa using h2
    · obtain ⟨ed, he, hb, rfl⟩ := mem_onsOf.1 hj
      rw [e] at h3
      simp only [Option.map_some, Option.getD_some, Array.all_eq_true'] at h3
      have := h3 ed (Array.mem_toList_iff.1 he)
      rw [hb] at this
      simp only [Bool.not_true, Bool.false_or] at this
      rw [Array.getD_eq_getD_getElem?] at this
      cases hq : listed[ed.on]? with
      | none => rw [hq] at this; cases this
      | some z => rw [hq] at this; simp only [Option.getD_some] at this; rw [this]
  · rintro ⟨h1, o, h2, h3⟩
    have hi : i < ops.size := by
      rcases Nat.lt_or_ge i ops.size with h | h
      · exact h
      · rw [Array.getElem?_eq_none h] at h2; cases h2
    refine ⟨hi, by rw [Array.getD_eq_getD_getElem?, h1]; rfl, ?_⟩
    rw [h2]
    simp only [Option.map_some, Option.getD_some, Array.all_eq_true']
    intro ed he
    cases hb : Region.binds .any ed with
    | false => rfl
    | true =>
      have := h3 ed.on (mem_onsOf.2 ⟨ed, Array.mem_toList_iff.2 he, hb, rfl⟩)
      rw [Array.getD_eq_getD_getElem?, this]
      rfl

def RelP (all : List Oper) (cl : Nat → Nat → Prop) (p q : Nat × Oper × Lab) : Prop :=
  cl q.1 p.1 ∨ (apartL all p.2.1 q.2.1 = true ∧ okPair p.2.2 q.2.2 = true)

theorem any_sound (hS : TysOk P S) {ops : Array Oper} {Q : Exit → Act → World → Prop} {cl : Nat → Nat → Prop} {T' : Nat → AV} {B' : Nat → Option Bx}
    (hcl : ∀ listed : Array Bool, (∀ (i : Nat) o, ops[i]? = some o → listed[i]? = some true → ∀ j ∈ onsOf o.after.toList, listed[j]? = some true) →
      ∀ (i : Nat) o, ops[i]? = some o → (∀ j ∈ onsOf o.after.toList, listed[j]? = some true) → ∀ j, cl i j → listed[j]? = some true)
    (hback : ∀ (i : Nat) o, ops[i]? = some o → ∀ j ∈ onsOf o.after.toList, j < i)
    (hQ : ∀ L A a' w', Inv w0 A0 N L A T' B' a' w' → Q .normal a' w') : ∀ (fuel : Nat) (listed : Array Bool) (rem : List (Nat × Oper × Lab)) {T : Nat → AV} {B : Nat → Option Bx} {L : Lay} {A : Sta} {a : Act} {w : World},
    listed.size = ops.size → rem.length = fuel → (∀ i, listed[i]? = some false ↔ i ∈ rem.map (·.1)) → (∀ p ∈ rem, ops[p.1]? = some p.2.1) →
    rem.Pairwise (fun p q => p.1 < q.1) → rem.Pairwise (RelP ops.toList cl) →
    (∀ (i : Nat) o, ops[i]? = some o → listed[i]? = some true → ∀ j ∈ onsOf o.after.toList, listed[j]? = some true) →
    Run P S N ops.toList rem T B T' B' → Inv w0 A0 N L A T B a w → wpAny P .any ops Q fuel listed a w
  | fuel, listed, rem, T, B, L, A, a, w, hsz, hlen, hmem, hget, hsort, hpair, hclosed, hrun, hI => by
    have hnil : Region.ready .any ops listed = [] → rem = [] := by
      intro hr
      cases rem with
      | nil => rfl
      | cons p rest =>
        have hp := hget p List.mem_cons_self
        have hpf : listed[p.1]? = some false := (hmem p.1).2 (by simp)
        have : p.1 ∈ Region.ready .any ops listed := by
          refine (mem_ready hsz).2 ⟨hpf, p.2.1, hp, fun j hj => ?_⟩
          have hlt := hback _ _ hp j hj
          have hp1 : p.1 < ops.size := by
            rcases Nat.lt_or_ge p.1 ops.size with h | h
            · exact h
            · rw [Array.getElem?_eq_none h] at hp; cases hp
          have hjl : j < listed.size := by omega
          cases hb : listed[j]? with
          | none => rw [Array.getElem?_eq_getElem hjl] at hb; cases hb
          | some b =>
            cases b with
            | true => rfl
            | false =>
              have := (hmem j).1 hb
              simp only [List.map_cons, List.mem_cons, List.mem_map] at this
              rcases this with h | ⟨q, hq, h⟩
              · omega
              · have := (List.pairwise_cons.1 hsort).1 q hq
                omega
        rw [hr] at this
        cases this
    have hfin : rem = [] → Q .normal a w := by
      rintro rfl
      cases hrun
      exact hQ _ _ _ _ hI
    cases fuel with
    | zero =>
      have hr : rem = [] := List.eq_nil_of_length_eq_zero hlen
      refine ⟨?_, hfin hr⟩
      cases hrd : Region.ready .any ops listed with
      | nil => rfl
      | cons i r =>
        have : i ∈ Region.ready .any ops listed := by rw [hrd]; exact List.mem_cons_self
        have := (hmem i).1 ((mem_ready hsz).1 this).1
        rw [hr] at this
        cases this
    | succ fuel =>
      refine ⟨fun hr => hfin (hnil hr), fun i hi => ?_⟩
      obtain ⟨hif, o, hio, hons⟩ := (mem_ready hsz).1 hi
      obtain ⟨p, hp, hpi⟩ := List.mem_map.1 ((hmem i).1 hif)
      obtain ⟨pre, post, rfl⟩ := List.append_of_mem hp
      subst hpi
      have hpo : p.2.1 = o := by
        have := hget p hp
        rw [hio] at this
        exact (Option.some.inj this).symm
      have hcli := hcl listed hclosed p.1 o hio hons
      have hfront := Run.front (x := p) (post := post) (pre := pre) (fun q hq => by
        rcases (List.pairwise_append.1 hpair).2.2 q hq p List.mem_cons_self with h | h
        · have h1 := hcli q.1 h
          have h2 : listed[q.1]? = some false := (hmem q.1).2 (by simp only [List.map_append, List.mem_append, List.mem_map]; exact .inl ⟨q, hq, rfl⟩)
          rw [h1] at h2
          cases h2
        · exact h) hrun
      cases hfront with
      | cons h1 h2 =>
        rw [hpo] at h1
        refine fstep_sound hS hio h1 hI fun L2 A2 a2 w2 hI2 => ?_
        have hil : p.1 < listed.size := by
          rcases Nat.lt_or_ge p.1 listed.size with h | h
          · exact h
          · rw [Array.getElem?_eq_none h] at hif; cases hif
        have hset : ∀ j, (listed.setIfInBounds p.1 true)[j]? = if p.1 = j then some true else listed[j]? := by
          intro j
          rw [Array.getElem?_setIfInBounds]
          by_cases e : p.1 = j
          · simp [e, e ▸ hil]
          · simp [e]
        have hmono : ∀ j : Nat, listed[j]? = some true → (listed.setIfInBounds p.1 true)[j]? = some true := by
          intro j hj; rw [hset]; split
          · rfl
          · exact hj
        have hsub : (pre ++ post).Sublist (pre ++ p :: post) := List.Sublist.append_left (List.sublist_cons_self _ _) _
        have hne : ∀ q ∈ pre ++ post, q.1 ≠ p.1 := by
          intro q hq
          obtain ⟨s1, s2, s3⟩ := List.pairwise_append.1 hsort
          rcases List.mem_append.1 hq with h | h
          · have := s3 q h p List.mem_cons_self; omega
          · have := (List.pairwise_cons.1 s2).1 q h; omega
        refine any_sound hS hcl hback hQ fuel _ (pre ++ post) (by simpa using hsz) ?_ (fun j => ?_) (fun q hq => hget q (hsub.subset hq)) (hsort.sublist hsub) (hpair.sublist hsub) ?_ h2 hI2
        · simp only [List.length_append, List.length_cons] at hlen ⊢; omega
        · rw [hset]
          constructor
          · intro h
            split at h
            · cases h
            · rename_i hj
              have := (hmem j).1 h
              simp only [List.map_append, List.map_cons, List.mem_append, List.mem_cons] at this ⊢
              rcases this with h | h | h
              · exact .inl h
              · exact absurd h.symm hj
              · exact .inr h
          · intro h
            obtain ⟨q, hq, rfl⟩ := List.mem_map.1 h
            rw [if_neg fun e => hne q hq e.symm]
            exact (hmem q.1).2 (List.mem_map.2 ⟨q, hsub.subset hq, rfl⟩)
        · intro j oj hj ht k hk
          rw [hset] at ht
          split at ht
          · rename_i e
            subst e
            rw [hio] at hj
            cases hj
            exact hmono k (hons k hk)
          · exact hmono k (hclosed j oj hj ht k hk)

/-! The lists of the evaluator. -/
def zip3 : Nat → List Oper → List Lab → List (Nat × Oper × Lab)
  | k, o :: r, l :: ls => (k, o, l) :: zip3 (k + 1) r ls
  | _, _, _ => []
theorem zip3_get {x : Nat × Oper × Lab} : ∀ {k : Nat} {r : List Oper} {ls : List Lab} {i : Nat}, (zip3 k r ls)[i]? = some x → x.1 = k + i ∧ r[i]? = some x.2.1 ∧ ls[i]? = some x.2.2
  | k, [], ls, i, h => by cases ls <;> simp [zip3] at h
  | k, o :: r, [], i, h => by simp [zip3] at h
  | k, o :: r, l :: ls, i, h => by
    cases i with
    | zero => simp only [zip3, List.getElem?_cons_zero, Option.some.injEq] at h; subst h; simp
    | succ i =>
      simp only [zip3, List.getElem?_cons_succ] at h
      obtain ⟨h1, h2, h3⟩ := zip3_get h
      exact ⟨by omega, by simpa using h2, by simpa using h3⟩
theorem zip3_len : ∀ {k : Nat} {r : List Oper} {ls : List Lab}, ls.length = r.length → (zip3 k r ls).length = r.length
  | k, [], ls, h => by cases ls <;> simp [zip3]
  | k, o :: r, [], h => by cases h
  | k, o :: r, l :: ls, h => by simp only [zip3, List.length_cons] at h ⊢; rw [zip3_len (by omega)]

theorem okAgainst_spec {o : Oper} {l : Lab} {m : Nat} : ∀ {pv : List (Nat × Oper × Lab)}, okAgainst all o l m pv = true → ∀ e ∈ pv, bitM m e.1 = true ∨ (apartL all e.2.1 o = true ∧ okPair e.2.2 l = true)
  | [], _, e, h => by cases h
  | (j, p, lj) :: r, h, e, he => by
    simp only [okAgainst] at h
    split at h
    · rename_i hb
      cases he with
      | head => exact .inl hb
      | tail _ he => exact okAgainst_spec h e he
    · split at h
      · rename_i e1 e2
        cases he with
        | head => exact .inr ⟨e2, e1⟩
        | tail _ he => exact okAgainst_spec h e he
      · cases h

theorem forceN_eq {β : Type} (n : Nat) (k : Nat → β) : forceN n k = k n := by cases n <;> rfl
theorem maskK_eq {β : Type} : ∀ (l : List Nat) (acc : Nat) (k : Nat → β), maskK l acc k = k (maskF l acc)
  | [], acc, k => forceN_eq acc k
  | _ :: r, _, k => maskK_eq r _ k
theorem labK_eq {β : Type} (o : Oper) (ρ : Operand → AV) (B : Nat → Option Bx) (v : AV) (ups : List (Nat × Option Bx)) (k : Lab → β) : labK o ρ B v ups k = k (labOf o ρ B v ups) := by
  simp only [labK, maskK_eq, labOf, maskL]
def reachF : Nat → List Oper → List (Nat × Nat) → List (Nat × Nat)
  | _, [], cl => cl
  | i, o :: r, cl => reachF (i + 1) r ((i, onsM cl (onsOf o.after.toList)) :: cl)
theorem reachK_eq {β : Type} : ∀ (i : Nat) (r : List Oper) (cl : List (Nat × Nat)) (k : List (Nat × Nat) → β), reachK i r cl k = k (reachF i r cl)
  | _, [], _, _ => rfl
  | i, o :: r, cl, k => by simp only [reachK, forceN_eq, reachF]; exact reachK_eq _ _ _ _
theorem onsM_bit {cl : List (Nat × Nat)} {j : Nat} : ∀ {l : List Nat}, bitM (onsM cl l) j = true → ∃ k ∈ l, j = k ∨ ∃ m, lk cl k = some m ∧ bitM m j = true
  | [], h => (bitM_zero.1 h).elim
  | k :: l, h => by
    simp only [onsM, bitM_lor, bitM_shift] at h
    rcases h with (h | h) | h
    · exact ⟨k, List.mem_cons_self, .inl h⟩
    · unfold getM at h
      cases hk : lk cl k with
      | none => rw [hk] at h; exact (bitM_zero.1 h).elim
      | some m => rw [hk] at h; exact ⟨k, List.mem_cons_self, .inr ⟨m, hk, h⟩⟩
    · obtain ⟨k', h1, h2⟩ := onsM_bit h
      exact ⟨k', List.mem_cons_of_mem _ h1, h2⟩
theorem reach_listed {ops : Array Oper} {listed : Array Bool}
    (hc : ∀ (i : Nat) o, ops[i]? = some o → listed[i]? = some true → ∀ j ∈ onsOf o.after.toList, listed[j]? = some true) :
    ∀ (r : List Oper) (i : Nat) (pre : List Oper) (cl : List (Nat × Nat)), ops.toList = pre ++ r → i = pre.length →
    (∀ k m, lk cl k = some m → ∃ o, ops[k]? = some o ∧ ((∀ j ∈ onsOf o.after.toList, listed[j]? = some true) → ∀ j, bitM m j = true → listed[j]? = some true)) →
    ∀ k m, lk (reachF i r cl) k = some m → ∃ o, ops[k]? = some o ∧ ((∀ j ∈ onsOf o.after.toList, listed[j]? = some true) → ∀ j, bitM m j = true → listed[j]? = some true)
  | [], _, _, cl, _, _, h => h
  | o :: r, i, pre, cl, hops, hi, h => by
    have hget : ops[i]? = some o := by
      rw [← Array.getElem?_toList, hops, hi, List.getElem?_append_right (Nat.le_refl _), Nat.sub_self]; rfl
    refine reach_listed hc r (i + 1) (pre ++ [o]) _ (by rw [hops]; simp) (by simp [hi]) fun k m hk => ?_
    rw [lk_cons] at hk
    split at hk
    · rename_i e
      subst e
      simp only [Option.some.injEq] at hk
      subst hk
      refine ⟨o, hget, fun hons j hj => ?_⟩
      obtain ⟨k', h1, h2 | ⟨m, h2, h3⟩⟩ := onsM_bit hj
      · rw [h2]; exact hons k' h1
      · obtain ⟨o', g1, g2⟩ := h k' m h2
        exact g2 (hc k' o' g1 (hons k' h1)) j h3
    · exact h k m hk
theorem backL_spec : ∀ {i : Nat} {r : List Oper}, backL i r = true → ∀ (n : Nat) o, r[n]? = some o → ∀ j ∈ onsOf o.after.toList, j < i + n
  | i, [], _, n, o, h => by simp at h
  | i, q :: r, hb, n, o, h => by
    simp only [backL, Bool.and_eq_true, List.all_eq_true] at hb
    intro j hj
    cases n with
    | zero =>
      simp only [List.getElem?_cons_zero, Option.some.injEq] at h
      subst h
      have := Nat.le_of_ble_eq_true (hb.1 j hj)
      omega
    | succ n =>
      have := backL_spec hb.2 n o (by simpa using h) j hj
      omega
theorem actU_out {dst : Option Nat} {σ : St} {K : AV → List (Nat × Option Bx) → St → Prop} : ∀ {r : Res}, actU P N dst σ K r →
    ∃ (v : AV) (ups : List (Nat × Option Bx)) (σ1 σ' : St), Out P none r v ups ∧ UpsR dst ups σ.get (lk σ.bx) σ1.get (lk σ1.bx) ∧ PutR N dst v σ1.get (lk σ1.bx) σ'.get ∧ σ'.bx = σ1.bx ∧
      (∀ i x, (i, some x) ∈ ups → ∃ bx, x.okIn bx = true) ∧ (dst ≠ none → ∃ bx, v.okIn bx = true) ∧ K v ups σ'
  | .ok v ups, h => by
    obtain ⟨σ1, h1, h2⟩ := upsK_out h
    obtain ⟨σ', h3, h4, h5⟩ := putK_out h2
    exact ⟨v, ups, σ1, σ', .ok _ _, h1, h3, h4, upsK_ok h, putK_ok h2, h5⟩
  | .call f args ups, h => by
    cases h with
    | mk r hev h =>
      obtain ⟨σ1, h1, h2⟩ := upsK_out h
      obtain ⟨σ', h3, h4, h5⟩ := putK_out h2
      exact ⟨.d r, ups, σ1, σ', .call hev, h1, h3, h4, upsK_ok h, putK_ok h2, h5⟩
  | .callX t f xs hs, h => by
    cases h with
    | mk v us hev hok h =>
      obtain ⟨σ1, h1, h2⟩ := upsK_out h
      obtain ⟨σ', h3, h4, h5⟩ := putK_out h2
      exact ⟨v, _, σ1, σ', .callX hev hok, h1, h3, h4, upsK_ok h, putK_ok h2, h5⟩
  | .need p r, h => by
    obtain ⟨v, ups, σ1, σ', h1, h2⟩ := actU_out h.rest
    exact ⟨v, ups, σ1, σ', .need h.side h1, h2⟩
  | .pickR rows i k, h => by
    cases h with
    | mk e he h =>
      obtain ⟨v, ups, σ1, σ', h1, h2⟩ := actU_out h
      exact ⟨v, ups, σ1, σ', .pickR he h1, h2⟩
  | .unM rows k, h => by
    cases h with
    | mk rs he h =>
      obtain ⟨v, ups, σ1, σ', h1, h2⟩ := actU_out h
      exact ⟨v, ups, σ1, σ', .unM he h1, h2⟩
  | .look es k hit miss, h => by
    cases hg : mget es k with
    | some x =>
      obtain ⟨v, ups, σ1, σ', h1, h2⟩ := actU_out (h.hit x hg)
      exact ⟨v, ups, σ1, σ', .hit hg h1, h2⟩
    | none =>
      obtain ⟨v, ups, σ1, σ', h1, h2⟩ := actU_out (h.miss hg)
      exact ⟨v, ups, σ1, σ', .miss hg h1, h2⟩
  | .nilq _ _ _, h => h.elim
  | .nxt _ _ _ _, h => h.elim
  | .alt x y, h => by
    cases h with
    | l h =>
      obtain ⟨v, ups, σ1, σ', h1, h2⟩ := actU_out h
      exact ⟨v, ups, σ1, σ', .altL h1, h2⟩
    | r h =>
      obtain ⟨v, ups, σ1, σ', h1, h2⟩ := actU_out h
      exact ⟨v, ups, σ1, σ', .altR h1, h2⟩
  | .pick es i k, h => by
    cases h with
    | mk e he h =>
      obtain ⟨v, ups, σ1, σ', h1, h2⟩ := actU_out h
      exact ⟨v, ups, σ1, σ', .pick he h1, h2⟩
  | .wr ik n k, h => by
    cases h with
    | mk z hz h =>
      obtain ⟨v, ups, σ1, σ', h1, h2⟩ := actU_out h
      exact ⟨v, ups, σ1, σ', .wr hz h1, h2⟩
  | .bad, h => by cases h
where
  upsK_ok {dst : Option Nat} : ∀ {ups : List (Nat × Option Bx)} {σ : St} {K : St → Prop}, upsK dst ups σ K → ∀ i x, (i, some x) ∈ ups → ∃ bx, x.okIn bx = true
    | [], _, _, _, i, x, h => by cases h
    | (b, none) :: r, ⟨T, bx⟩, K, h, i, x, hm => by
      simp only [upsK, rmK_eq, pgBK_eq, pgTK_eq] at h
      cases hm with
      | tail _ hm => exact upsK_ok h i x hm
    | (b, some y) :: r, ⟨T, bx⟩, K, h, i, x, hm => by
      have key : y.okIn bx = true ∧ upsK dst r ⟨T, stF bx b y⟩ K := by
        simp only [upsK, stK_eq] at h
        split at h
        · rename_i hok
          split at h
          · exact ⟨hok, h⟩
          · exact ⟨hok, h⟩
          · cases h
        · cases h
      cases hm with
      | head => exact ⟨bx, key.1⟩
      | tail _ hm => exact upsK_ok key.2 i x hm
  putK_ok {dst : Option Nat} {σ : St} {v : AV} {K : St → Prop} (h : putK N dst σ v K) : dst ≠ none → ∃ bx, v.okIn bx = true := by
    obtain ⟨T, bx⟩ := σ
    intro hd
    cases dst with
    | none => exact absurd rfl hd
    | some t =>
      simp only [putK] at h
      split at h
      · rename_i h1 h2; exact ⟨bx, h2⟩
      · cases h

theorem mem_upsMens {b i : Nat} {x : Bx} : ∀ {ups : List (Nat × Option Bx)}, (i, some x) ∈ ups → b ∈ x.mens → b ∈ upsMens ups
  | (j, none) :: r, h, hb => by
    cases h with
    | tail _ h => exact mem_upsMens (ups := r) h hb
  | (j, some y) :: r, h, hb => by
    simp only [upsMens, List.mem_append]
    cases h with
    | head => exact .inl hb
    | tail _ h => exact .inr (mem_upsMens (ups := r) h hb)

theorem mem_newOf {B : Nat → Option Bx} {b : Nat} : ∀ {ups : List (Nat × Option Bx)}, b ∈ Res.keys ups → B b = none → b ∈ newOf B ups
  | (i, u) :: r, h, hn => by
    simp only [newOf]
    simp only [Res.keys, List.mem_cons] at h
    rcases h with rfl | h
    · rw [hn]; exact List.mem_cons_self
    · cases B i with
      | some y => exact mem_newOf (ups := r) h hn
      | none => exact List.mem_cons_of_mem _ (mem_newOf (ups := r) h hn)
theorem stepsD_run {cl : List (Nat × Nat)} : ∀ (r : List Oper) (idx : Nat) {σ : St} {pv : List (Nat × Oper × Lab)} {K : St → Prop},
    stepsD P S N all cl idx r σ pv K → ∃ (σ' : St) (ls : List Lab), ls.length = r.length ∧ Run P S N all (zip3 idx r ls) σ.get (lk σ.bx) σ'.get (lk σ'.bx) ∧
      (zip3 idx r ls).Pairwise (RelP all fun i j => bitM (getM cl i) j = true) ∧ (∀ e ∈ pv, ∀ q ∈ zip3 idx r ls, RelP all (fun i j => bitM (getM cl i) j = true) e q) ∧ K σ'
  | [], idx, σ, pv, K, h => ⟨σ, [], rfl, .nil _ _, .nil, fun _ _ q hq => (by cases hq), h⟩
  | o :: r, idx, σ, pv, K, h => by
    have next : ∀ {σ1 : St} {l : Lab}, okAgainst all o l (getM cl idx) pv = true → stepsD P S N all cl (idx + 1) r σ1 ((idx, o, l) :: pv) K → FStep P S N all o l σ.get (lk σ.bx) σ1.get (lk σ1.bx) →
        ∃ (σ' : St) (ls : List Lab), ls.length = (o :: r).length ∧ Run P S N all (zip3 idx (o :: r) ls) σ.get (lk σ.bx) σ'.get (lk σ'.bx) ∧
          (zip3 idx (o :: r) ls).Pairwise (RelP all fun i j => bitM (getM cl i) j = true) ∧ (∀ e ∈ pv, ∀ q ∈ zip3 idx (o :: r) ls, RelP all (fun i j => bitM (getM cl i) j = true) e q) ∧ K σ' := by
      intro σ1 l h0 h1 h2
      obtain ⟨σ', ls, k1, k2, k3, k4, k5⟩ := stepsD_run r (idx + 1) h1
      refine ⟨σ', l :: ls, by simp [k1], .cons h2 k2, ?_, fun e he q hq => ?_, k5⟩
      · exact List.pairwise_cons.2 ⟨fun q hq => k4 _ List.mem_cons_self q hq, k3⟩
      · simp only [zip3, List.mem_cons] at hq
        rcases hq with rfl | hq
        · exact okAgainst_spec h0 e he
        · exact k4 e (List.mem_cons_of_mem _ he) q hq
    rw [stepsD_cons] at h
    split at h
    · rename_i hw
      obtain ⟨v, ups, σ1, σ2, h1, h2, h3, h4, h5, h6, h7⟩ := actU_out h
      split at h7
      · rename_i hk
        rw [labK_eq] at h7
        split at h7
        · rename_i hok
          obtain ⟨σ3, g1, g2, g3⟩ := gsp_out h7
          obtain ⟨e1, e2⟩ := ups_nk h2 hk
          have hb3 : lk σ3.bx = apB ups (lk σ.bx) := by rw [g2, h4, e2]
          refine next hok g3 ⟨v, ups, .inl ⟨(wantA_eq all o σ).symm.trans hw, h1⟩, hk, by rw [← e2]; rw [e1] at h2; exact h2, ?_, hb3, fun _ b hb => ?_, fun b hb => bitM_mask.2 hb, fun b hk hn => ?_, fun hd b hb => ?_, fun i x hx b hb => ?_⟩
          · rw [g1, ← e2, ← e1]; exact h3
          · exact bitM_mask.2 hb
          · exact bitM_mask.2 (mem_newOf hk hn)
          · obtain ⟨bx, hok⟩ := h6 hd
            exact bitM_mask.2 (List.mem_append.2 (.inl (mens_men hok hb)))
          · obtain ⟨bx, hok⟩ := h5 i x hx
            exact bitM_mask.2 (List.mem_append.2 (.inr (mem_upsMens hx (bx_mens_men hok hb))))
        · cases h7
      · cases h7
    · rename_i hw
      split at h
      · rename_i hok
        obtain ⟨σ1, h1, h2, h3⟩ := putK_out h
        refine next hok h3 ⟨.undef, [], .inr ⟨(wantA_eq all o σ).symm.trans hw, rfl, rfl⟩, rfl, .nil _ _, h1, by rw [h2]; rfl, fun hg => ?_, fun b hb => (by cases hb), fun b hk _ => (by cases hk), fun _ b hb => (by cases hb), fun i x hx => (by cases hx)⟩
        rw [← wantA_eq, hw] at hg
        cases hg
      · cases h
    · cases h

theorem regD_sound (hS : TysOk P S) (hm : P.follows .mixedOrders = true) {id : Nat} {ops : Array Oper} {Q : Exit → Act → World → Prop} {σ : St} {K : St → Prop} {a : Act} {w : World}
    (h : regD P S N ops.toList σ K) (hr : Rel w0 A0 N σ a w) (hK : ∀ σ' a' w', Rel w0 A0 N σ' a' w' → K σ' → Q .normal a' w') : (Code.region id ops true).wp P Q a w := by
  unfold regD at h
  split at h
  · rename_i hback
    rw [reachK_eq] at h
    obtain ⟨σ', ls, h1, h2, h3, -, h4⟩ := stepsD_run ops.toList 0 h
    obtain ⟨L, A, hI⟩ := hr
    refine wp_region_any hm (any_sound hS (cl := fun i j => bitM (getM (reachF 0 ops.toList []) i) j = true) (T' := σ'.get) (B' := lk σ'.bx) ?_ ?_ (fun L A a' w' hI' => hK σ' a' w' ⟨L, A, hI'⟩ h4)
      ops.size _ (zip3 0 ops.toList ls) (by simp) (by rw [zip3_len h1]; simp) (fun i => ?_) (fun p hp => ?_) ?_ h3 ?_ h2 (hI.world ⟨⟨rfl, rfl, rfl, Nat.le_refl _, fun _ _ => rfl⟩, Nat.le_succ _⟩ (fun _ _ h => h) hI.Aok (fun _ _ h => .inl h)))
    · intro listed hc i o ho hons j hj
      unfold getM at hj
      cases hcn : lk (reachF 0 ops.toList []) i with
      | none => rw [hcn] at hj; exact (bitM_zero.1 hj).elim
      | some m =>
        rw [hcn] at hj
        obtain ⟨o', g1, g2⟩ := reach_listed hc ops.toList 0 [] [] rfl rfl (fun k m hk => by simp [lk] at hk) i m hcn
        rw [ho] at g1
        cases g1
        exact g2 hons j hj
    · intro i o ho j hj
      have := backL_spec hback i o (by rw [Array.getElem?_toList]; exact ho) j hj
      omega
    · rw [Array.getElem?_replicate]
      constructor
      · intro hi
        split at hi
        · rename_i hlt
          have hlt' : i < (zip3 0 ops.toList ls).length := by rw [zip3_len h1]; simpa using hlt
          refine List.mem_map.2 ⟨(zip3 0 ops.toList ls)[i], List.getElem_mem _, ?_⟩
          have := (zip3_get (List.getElem?_eq_getElem hlt')).1
          omega
        · cases hi
      · intro hi
        obtain ⟨p, hp, rfl⟩ := List.mem_map.1 hi
        obtain ⟨n, hn, hpn⟩ := List.getElem_of_mem hp
        have hg := zip3_get (x := p) (by rw [List.getElem?_eq_getElem hn, hpn])
        rw [zip3_len h1] at hn
        have : p.1 < ops.size := by simp at hn; omega
        rw [if_pos this]
    · obtain ⟨n, hn, hpn⟩ := List.getElem_of_mem hp
      obtain ⟨g1, g2, -⟩ := zip3_get (x := p) (by rw [List.getElem?_eq_getElem hn, hpn])
      rw [Array.getElem?_toList] at g2
      rw [show p.1 = n by omega]
      exact g2
    · refine List.pairwise_iff_getElem.2 fun i j hi hj hij => ?_
      have g1 := (zip3_get (List.getElem?_eq_getElem hi)).1
      have g2 := (zip3_get (List.getElem?_eq_getElem hj)).1
      omega
    · intro i o ho hl
      rw [Array.getElem?_replicate] at hl
      split at hl <;> cases hl
  · cases h
end
end Go.Vm
