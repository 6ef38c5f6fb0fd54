/- Regions that draw their order, first part: two operations that do not touch may change places. -/
import Derived.Test.YticnipadahihhaaVmQ
namespace Go.Vm
section
variable {P : Program} {S : Tys}

theorem zipResz_congr {ρ ρ' : Operand → AV} {l : List Operand} (h : ∀ x ∈ l, ρ x = ρ' x) : l.map ρ = l.map ρ' := List.map_congr_left h
theorem fillL_congr {ρ ρ' : Operand → AV} {t : TypeId} : ∀ (ps : List (Nat × Operand)) (cs : List AV), (∀ p ∈ ps, ρ p.2 = ρ' p.2) → fillL S t ρ cs ps = fillL S t ρ' cs ps
  | [], _, _ => rfl
  | (i, x) :: ps, cs, h => by
    have h1 : ρ x = ρ' x := h (i, x) List.mem_cons_self
    have ih := fun cs => fillL_congr (t := t) ps cs fun p hp => h p (List.mem_cons_of_mem _ hp)
    simp only [fillL, h1, ih]
theorem fillArr_congr {ρ ρ' : Operand → AV} {e : TypeId} : ∀ (ps : List (Nat × Operand)) (cs : List AV), (∀ p ∈ ps, ρ p.2 = ρ' p.2) → fillArr S e ρ cs ps = fillArr S e ρ' cs ps
  | [], _, _ => rfl
  | (i, x) :: ps, cs, h => by
    have h1 : ρ x = ρ' x := h (i, x) List.mem_cons_self
    have ih := fun cs => fillArr_congr (e := e) ps cs fun p hp => h p (List.mem_cons_of_mem _ hp)
    simp only [fillArr, h1, ih]
theorem fillE_congrR {ρ ρ' : Operand → AV} {B : Nat → Option Bx} {e size : Nat} : ∀ (ps : List (Nat × Operand)) (es : List D) (us : List (Nat × Option Bx)) (k : List D → List (Nat × Option Bx) → Res),
    (∀ p ∈ ps, ρ p.2 = ρ' p.2) → fillE S B e size ρ es ps us k = fillE S B e size ρ' es ps us k
  | [], _, _, _, _ => rfl
  | (i, x) :: ps, es, us, k, h => by
    have h1 : ρ x = ρ' x := h (i, x) List.mem_cons_self
    have ih := fun es us => fillE_congrR (B := B) (e := e) (size := size) ps es us k fun p hp => h p (List.mem_cons_of_mem _ hp)
    simp only [fillE, h1, ih]
theorem loI_congr {ρ ρ' : Operand → AV} {x : Option Operand} (h : ∀ y ∈ x.toArray, ρ y = ρ' y) : x.map ρ = x.map ρ' := by
  cases x with
  | none => rfl
  | some y => simp only [Option.map_some, h y (by simp)]

theorem eff_congrR {dr : Bool} {o : Oper} {ρ ρ' : Operand → AV} {B : Nat → Option Bx} (h : ∀ x ∈ o.op.operands.toList, ρ x = ρ' x) : eff S dr o ρ B = eff S dr o ρ' B := by
  obtain ⟨dst, op, type, pos, after, guard⟩ := o
  cases op with
  | build t ps =>
    have hp : ∀ p ∈ ps.toList, ρ p.2 = ρ' p.2 := fun p hp => h p.2 (by simp [Op.operands]; exact ⟨p.1, by simpa using hp⟩)
    simp only [eff, fillL_congr _ _ hp, fillArr_congr _ _ hp]
  | buildSlice t n ps =>
    have hp : ∀ p ∈ ps.toList, ρ p.2 = ρ' p.2 := fun p hp => h p.2 (by simp [Op.operands]; exact ⟨p.1, by simpa using hp⟩)
    have hm : ∀ ie, fillM B dr ie ρ n ps.toList = fillM B dr ie ρ' n ps.toList := by
      intro ie
      unfold fillM
      split
      · rename_i x hps
        rw [hp (0, x) (by rw [hps]; exact List.mem_cons_self)]
      · rfl
    simp only [eff, fillE_congrR _ _ _ _ hp, hm]
  | makeMap t r => cases r <;> rfl
  | makeFunc fn first caps =>
    have hp : caps.toList.map ρ = caps.toList.map ρ' := zipResz_congr fun x hx => h x (by simp [Op.operands]; exact .inr (by simpa using hx))
    simp only [eff, hp]
  | slice t x lo hi mx =>
    have h1 : ρ x = ρ' x := h x (by simp [Op.operands])
    have h2 : lo.map ρ = lo.map ρ' := loI_congr fun y hy => h y (by simp [Op.operands]; simp at hy; simp [hy])
    have h3 : hi.map ρ = hi.map ρ' := loI_congr fun y hy => h y (by simp [Op.operands]; simp at hy; simp [hy])
    simp only [eff, h1, h2, h3]
  | call c =>
    obtain ⟨callee, args, argTypes⟩ := c
    have hp : args.toList.map ρ = args.toList.map ρ' := zipResz_congr fun x hx => h x (by simp [Op.operands, Call.operands]; exact .inr (by simpa using hx))
    cases callee with
    | value f =>
      have hf : ρ f = ρ' f := h f (by simp [Op.operands, Call.operands])
      simp only [eff, hp, hf]
    | invoke => rfl
    | builtin b => cases b <;> first | rfl | simp only [eff, hp]
  | _ => simp only [eff] <;> simp_all [Op.operands]

def wantF (all : List Oper) (o : Oper) (T : Nat → AV) : Go3 := match o.guard with
  | none => .go
  | some (j, want) => match dstOf all j with
    | none => .skip
    | some t => match T t with
      | .d (.bool b) => match b, want with
        | true, true => .go
        | false, false => .go
        | true, false => .skip
        | false, true => .skip
      | .undef => .skip
      | _ => .stop
theorem wantA_eq (all : List Oper) (o : Oper) (σ : St) : wantedA all o σ = wantF all o σ.get := rfl

def SrcF (P : Program) (S : Tys) (all : List Oper) (o : Oper) (T : Nat → AV) (B : Nat → Option Bx) (v : AV) (ups : List (Nat × Option Bx)) : Prop :=
  (wantF all o T = .go ∧ Out P none (eff S true o (evA T) B) v ups) ∨ (wantF all o T = .skip ∧ v = .undef ∧ ups = [])

theorem mem_tmps {l : List Operand} {t : Nat} (h : Operand.tmp t ∈ l) : t ∈ looksL.tmpsOf l := by
  induction l with
  | nil => cases h
  | cons x l ih =>
    cases h with
    | head => simp [looksL.tmpsOf]
    | tail _ h => cases x <;> simp [looksL.tmpsOf, ih h]
theorem src_congr {all : List Oper} {o : Oper} {T T' : Nat → AV} {B B' : Nat → Option Bx} {v : AV} {ups} (hT : ∀ t ∈ looksL all o, T' t = T t)
    (hB : ∀ b ∈ readsOf o (evA T) B, B' b = B b) (h : SrcF P S all o T B v ups) : SrcF P S all o T' B' v ups := by
  have hw : wantF all o T' = wantF all o T := by
    unfold wantF
    cases hg : o.guard with
    | none => rfl
    | some jw =>
      obtain ⟨j, want⟩ := jw
      cases hd : dstOf all j with
      | none => simp only [hd]
      | some t => simp only [hd, hT t (by simp [looksL, hg, hd])]
  have he : ∀ x ∈ o.op.operands.toList, evA T' x = evA T x := by
    intro x hx
    cases x with
    | tmp t => exact hT t (by simp [looksL]; exact .inl (mem_tmps hx))
    | _ => rfl
  have heff : eff S true o (evA T') B' = eff S true o (evA T) B := by
    rw [eff_congrR (S := S) (B := B') he]
    exact (eff_congrB o _ fun b hb => (hB b hb).symm).symm
  unfold SrcF at h ⊢
  rw [hw, heff]
  exact h

def apB : List (Nat × Option Bx) → (Nat → Option Bx) → Nat → Option Bx
  | [], B => B
  | (b, some x) :: r, B => apB r (upd B b (some x))
  | (_, none) :: r, B => apB r B

theorem reads_congrR {o : Oper} {ρ ρ' : Operand → AV} {B : Nat → Option Bx} (h : ∀ x ∈ o.op.operands.toList, ρ x = ρ' x) : readsOf o ρ B = readsOf o ρ' B := by
  have lst : ∀ l : List Operand, (∀ x ∈ l, ρ x = ρ' x) → opndMens ρ l = opndMens ρ' l := by
    intro l
    induction l with
    | nil => intro _; rfl
    | cons x l ih => intro h; simp only [opndMens, h x List.mem_cons_self, ih fun y hy => h y (List.mem_cons_of_mem _ hy)]
  obtain ⟨dst, op, type, pos, after, guard⟩ := o
  have gen : (match touches op with | false => [] | true => opndMens ρ op.operands.toList) = (match touches op with | false => [] | true => opndMens ρ' op.operands.toList) := by rw [lst _ h]
  cases op with
  | call c =>
    obtain ⟨callee, args, argTypes⟩ := c
    cases callee with
    | value f =>
      have hf : ρ f = ρ' f := h f (by simp [Op.operands, Call.operands])
      have ha : ∀ x ∈ args.toList, ρ x = ρ' x := fun x hx => h x (by simp [Op.operands, Call.operands]; exact .inr (by simpa using hx))
      have h1 := lst _ ha
      have h2 : opndMens ρ (f :: args.toList) = opndMens ρ' (f :: args.toList) := by simp only [opndMens, hf, h1]
      show opndMens ρ (f :: args.toList) ++ handV B 200 (opndMens ρ args.toList ++ (ρ f).mens) [] = opndMens ρ' (f :: args.toList) ++ handV B 200 (opndMens ρ' args.toList ++ (ρ' f).mens) []
      rw [h1, h2, hf]
    | _ => exact gen
  | next x str =>
    show opndMens ρ [x] ++ handV B 200 (opndMens ρ [x]) [] = opndMens ρ' [x] ++ handV B 200 (opndMens ρ' [x]) []
    rw [lst [x] fun y hy => h y (by simpa [Op.operands] using hy)]
  | entry x =>
    show opndMens ρ [x] ++ handV B 200 (opndMens ρ [x]) [] = opndMens ρ' [x] ++ handV B 200 (opndMens ρ' [x]) []
    rw [lst [x] fun y hy => h y (by simpa [Op.operands] using hy)]
  | _ => exact gen

theorem ups_nk {dst : Option Nat} {ups : List (Nat × Option Bx)} {T : Nat → AV} {B : Nat → Option Bx} {T1 : Nat → AV} {B1 : Nat → Option Bx} (h : UpsR dst ups T B T1 B1) (hk : noKill ups = true) : T1 = T ∧ B1 = apB ups B := by
  induction h with
  | nil => exact ⟨rfl, rfl⟩
  | kill => cases hk
  | set _ _ _ _ ih => exact ih hk
  | new _ _ _ _ _ ih => exact ih hk
theorem apB_not {b : Nat} : ∀ {ups : List (Nat × Option Bx)} {B : Nat → Option Bx}, b ∉ Res.keys ups → apB ups B b = B b
  | [], B, _ => rfl
  | (i, some x) :: r, B, h => by
    simp only [Res.keys, List.mem_cons, not_or] at h
    rw [apB, apB_not h.2, upd_ne _ _ h.1]
  | (i, none) :: r, B, h => by
    simp only [Res.keys, List.mem_cons, not_or] at h
    rw [apB, apB_not h.2]
theorem apB_key {b : Nat} : ∀ {ups : List (Nat × Option Bx)} {B B' : Nat → Option Bx}, noKill ups = true → b ∈ Res.keys ups → apB ups B b = apB ups B' b
  | [], B, B', _, h => by cases h
  | (i, none) :: r, B, B', hk, h => by cases hk
  | (i, some x) :: r, B, B', hk, h => by
    simp only [apB]
    by_cases h1 : b ∈ Res.keys r
    · exact apB_key hk h1
    · simp only [Res.keys, List.mem_cons] at h
      have : b = i := h.resolve_right h1
      subst this
      rw [apB_not h1, apB_not h1, upd_same, upd_same]
theorem apB_some {b : Nat} : ∀ {ups : List (Nat × Option Bx)} {B : Nat → Option Bx}, B b ≠ none → apB ups B b ≠ none
  | [], B, h => h
  | (i, none) :: r, B, h => apB_some (ups := r) h
  | (i, some x) :: r, B, h => by
    refine apB_some (ups := r) ?_
    by_cases e : b = i
    · subst e; rw [upd_same]; simp
    · rw [upd_ne _ _ e]; exact h
theorem ups_old {dst : Option Nat} {ups : List (Nat × Option Bx)} {T : Nat → AV} {B : Nat → Option Bx} {T1 : Nat → AV} {B1 : Nat → Option Bx} (h : UpsR dst ups T B T1 B1) (hk : noKill ups = true) {b : Nat} (hb : B1 b ≠ none) :
    B b ≠ none ∨ b ∈ Res.keys ups := by
  induction h with
  | nil => exact .inl hb
  | kill => cases hk
  | @set i x r T B T' B' _ h1 _ _ ih =>
    rcases ih hk hb with h | h
    · by_cases e : b = i
      · subst e; exact .inl h1
      · rw [upd_ne _ _ e] at h; exact .inl h
    · exact .inr (List.mem_cons_of_mem _ h)
  | @new i x r T B T' B' h1 _ _ _ _ ih =>
    rcases ih hk hb with h | h
    · by_cases e : b = i
      · subst e; exact .inr List.mem_cons_self
      · rw [upd_ne _ _ e] at h; exact .inl h
    · exact .inr (List.mem_cons_of_mem _ h)
theorem ups_move {dst : Option Nat} {ups : List (Nat × Option Bx)} {T : Nat → AV} {B : Nat → Option Bx} {T1 : Nat → AV} {B1 : Nat → Option Bx} (h : UpsR dst ups T B T1 B1) (hk : noKill ups = true) :
    ∀ (Ts : Nat → AV) (Bs : Nat → Option Bx), (∀ b ∈ Res.keys ups, (Bs b = none ↔ B b = none)) → (∀ b x, (b, some x) ∈ ups → ∀ b', Bx.men b' x = true → B b' ≠ none → Bs b' ≠ none) →
    UpsR dst ups Ts Bs Ts (apB ups Bs) := by
  induction h with
  | nil => intro Ts Bs _ _; exact .nil _ _
  | kill => cases hk
  | @set i x r T B T' B' h1 h2 h3 _ ih =>
    intro Ts Bs hb hm
    refine .set h1 (fun e => h2 ((hb i (by simp [Res.keys])).1 e)) (fun b' hb' => hm i x List.mem_cons_self b' hb' (h3 b' hb')) (ih hk Ts _ (fun b hbk => ?_) fun b y hy b' hb' hn => ?_)
    · by_cases e : b = i
      · subst e; rw [upd_same, upd_same]
      · rw [upd_ne _ _ e, upd_ne _ _ e]; exact hb b (by simp [Res.keys, hbk])
    · by_cases e : b' = i
      · subst e; rw [upd_same]; simp
      · rw [upd_ne _ _ e] at hn ⊢; exact hm b y (List.mem_cons_of_mem _ hy) b' hb' hn
  | @new i x r T B T' B' h1 h0 h2 h3 _ ih =>
    intro Ts Bs hb hm
    refine .new h1 h0 ((hb i (by simp [Res.keys])).2 h2) (fun b' hb' => hm i x List.mem_cons_self b' hb' (h3 b' hb')) (ih hk Ts _ (fun b hbk => ?_) fun b y hy b' hb' hn => ?_)
    · by_cases e : b = i
      · subst e; rw [upd_same, upd_same]
      · rw [upd_ne _ _ e, upd_ne _ _ e]; exact hb b (by simp [Res.keys, hbk])
    · by_cases e : b' = i
      · subst e; rw [upd_same]; simp
      · rw [upd_ne _ _ e] at hn ⊢; exact hm b y (List.mem_cons_of_mem _ hy) b' hb' hn

/-- One operation, its label covering what it touches. -/
def FStep (P : Program) (S : Tys) (N : Nat) (all : List Oper) (o : Oper) (l : Lab) (T : Nat → AV) (B : Nat → Option Bx) (T' : Nat → AV) (B' : Nat → Option Bx) : Prop :=
  ∃ v ups, SrcF P S all o T B v ups ∧ noKill ups = true ∧ UpsR o.dst ups T B T (apB ups B) ∧ PutR N o.dst v T (apB ups B) T' ∧ B' = apB ups B ∧
    (wantF all o T = .go → ∀ b ∈ readsOf o (evA T) B, bitM l.rd b = true) ∧ (∀ b ∈ Res.keys ups, bitM l.wr b = true) ∧ (∀ b ∈ Res.keys ups, B b = none → bitM l.cr b = true) ∧
    (o.dst ≠ none → ∀ b, v.men b = true → bitM l.mt b = true) ∧ (∀ i x, (i, some x) ∈ ups → ∀ b, Bx.men b x = true → bitM l.mt b = true)

theorem memN_iff {x : Nat} : ∀ {l : List Nat}, memN x l = true ↔ x ∈ l
  | [] => by simp [memN]
  | y :: l => by
    simp only [memN, List.mem_cons]
    cases e : Nat.beq x y with
    | true => have := Nat.eq_of_beq_eq_true e; simp [this]
    | false => have := beq_false_ne e; simp [this, memN_iff (l := l)]
theorem beq_iff {a b : Nat} : Nat.beq a b = true ↔ a = b := ⟨Nat.eq_of_beq_eq_true, fun h => by rw [h]; exact Nat.beq_refl b⟩
theorem bitM_iff {m j : Nat} : bitM m j = true ↔ m.testBit j = true := by
  have e1 : Nat.land (Nat.shiftRight m j) 1 = m / 2 ^ j % 2 := by
    have : Nat.land (Nat.shiftRight m j) 1 = (m >>> j) &&& 1 := rfl
    rw [this, Nat.and_one_is_mod, Nat.shiftRight_eq_div_pow]
  unfold bitM
  rw [beq_iff, e1, Nat.testBit_eq_decide_div_mod_eq, decide_eq_true_eq]
theorem bitM_lor {a b j : Nat} : bitM (Nat.lor a b) j = true ↔ bitM a j = true ∨ bitM b j = true := by
  have : Nat.lor a b = a ||| b := rfl
  simp only [bitM_iff, this, Nat.testBit_or, Bool.or_eq_true]
theorem bitM_shift {k j : Nat} : bitM (Nat.shiftLeft 1 k) j = true ↔ j = k := by
  have : Nat.shiftLeft 1 k = 1 <<< k := rfl
  rw [bitM_iff, this, Nat.one_shiftLeft, Nat.testBit_two_pow, decide_eq_true_eq]
  exact eq_comm
theorem bitM_zero {j : Nat} : bitM 0 j = true ↔ False := by
  simp [bitM_iff]
theorem bitM_maskF {j : Nat} : ∀ {l : List Nat} {acc : Nat}, bitM (maskF l acc) j = true ↔ bitM acc j = true ∨ j ∈ l
  | [], acc => by simp [maskF]
  | b :: l, acc => by simp only [maskF, bitM_maskF (l := l), bitM_lor, bitM_shift, List.mem_cons, or_assoc]
theorem bitM_mask {j : Nat} {l : List Nat} : bitM (maskL l) j = true ↔ j ∈ l := by
  simp only [maskL, bitM_maskF, bitM_zero, false_or]
theorem disjM_spec {a b : Nat} (h : disjM a b = true) : ∀ x, bitM a x = true → ¬ bitM b x = true := by
  intro x h1 h2
  have h := beq_iff.1 h
  have e : Nat.land a b = a &&& b := rfl
  rw [e] at h
  have := Nat.testBit_and a b x
  rw [h, bitM_iff.1 h1, bitM_iff.1 h2] at this
  simp at this
theorem okPair_spec {a b : Lab} (h : okPair a b = true) : (∀ x, bitM a.wr x = true → ¬ bitM b.rd x = true) ∧ (∀ x, bitM b.wr x = true → ¬ bitM a.rd x = true) ∧ (∀ x, bitM a.wr x = true → ¬ bitM b.wr x = true) ∧
    (∀ x, bitM a.cr x = true → ¬ bitM b.mt x = true) ∧ (∀ x, bitM b.cr x = true → ¬ bitM a.mt x = true) := by
  unfold okPair at h
  split at h
  · rename_i h1 h2 h3
    split at h
    · rename_i h4 h5
      exact ⟨disjM_spec h1, disjM_spec h2, disjM_spec h3, disjM_spec h4, disjM_spec h5⟩
    · cases h
  · cases h
theorem apartL_spec {all : List Oper} {x y : Oper} (h : apartL all x y = true) : (∀ d, x.dst = some d → d ∉ looksL all y ∧ y.dst ≠ some d) ∧ (∀ d, y.dst = some d → d ∉ looksL all x) := by
  unfold apartL at h
  rw [Bool.and_eq_true] at h
  obtain ⟨h1, h2⟩ := h
  refine ⟨fun d hd => ?_, fun d hd => ?_⟩
  · rw [hd] at h1
    simp only at h1
    cases hm : memN d (looksL all y) with
    | true => rw [hm] at h1; cases h1
    | false =>
      rw [hm] at h1
      refine ⟨fun hc => (by rw [memN_iff.2 hc] at hm; cases hm), fun hc => ?_⟩
      rw [hc] at h1
      simp only [Nat.beq_refl] at h1
      cases h1
  · rw [hd] at h2
    simp only at h2
    intro hc
    rw [memN_iff.2 hc] at h2
    cases h2

theorem put_agree {N : Nat} {dst : Option Nat} {v : AV} {T : Nat → AV} {B : Nat → Option Bx} {T' : Nat → AV} (h : PutR N dst v T B T') {t : Nat} (ht : dst ≠ some t) : T' t = T t := by
  cases dst with
  | none => rw [show T' = T from h]
  | some d =>
    obtain ⟨_, _, rfl⟩ := h
    exact upd_ne _ _ fun e => ht (by rw [e])

/-- Two operations that do not touch change places. -/
theorem swap {N : Nat} {all : List Oper} {o1 o2 : Oper} {l1 l2 : Lab} {T T1 T2 : Nat → AV} {B B1 B2 : Nat → Option Bx} (hap : apartL all o1 o2 = true) (hl : okPair l1 l2 = true)
    (h1 : FStep P S N all o1 l1 T B T1 B1) (h2 : FStep P S N all o2 l2 T1 B1 T2 B2) : ∃ Tm Bm, FStep P S N all o2 l2 T B Tm Bm ∧ FStep P S N all o1 l1 Tm Bm T2 B2 := by
  obtain ⟨a1, a2⟩ := apartL_spec hap
  obtain ⟨p1, p2, p3, p4, p5⟩ := okPair_spec hl
  obtain ⟨v1, u1, s1, k1, ur1, pr1, rfl, rd1, wr1, cr1, mv1, mu1⟩ := h1
  obtain ⟨v2, u2, s2, k2, ur2, pr2, rfl, rd2, wr2, cr2, mv2, mu2⟩ := h2
  have agree1 : ∀ t ∈ looksL all o2, T1 t = T t := fun t ht => put_agree pr1 fun e => (a1 t e).1 ht
  have kk : ∀ b, b ∈ Res.keys u1 → b ∉ Res.keys u2 := fun b hb hb' => p3 b (wr1 b hb) (wr2 b hb')
  have ops2 : ∀ x ∈ o2.op.operands.toList, evA T1 x = evA T x := by
    intro x hx
    cases x with
    | tmp t => exact agree1 t (by simp [looksL]; exact .inl (mem_tmps hx))
    | _ => rfl
  have want2 : wantF all o2 T = wantF all o2 T1 := by
    unfold wantF
    cases hg : o2.guard with
    | none => rfl
    | some jw =>
      obtain ⟨j, want⟩ := jw
      cases hd : dstOf all j with
      | none => simp only [hd]
      | some t => simp only [hd, agree1 t (by simp [looksL, hg, hd])]
  -- if an operation is skipped, nothing of it reads
  have s2' : SrcF P S all o2 T B v2 u2 := by
    rcases s2 with ⟨hw, ho⟩ | ⟨hw, hv, hu⟩
    · refine src_congr (T := T1) (B := apB u1 B) (fun t ht => (agree1 t ht).symm) (fun b hb => ?_) (.inl ⟨hw, ho⟩)
      exact (apB_not fun hk => p1 b (wr1 b hk) (rd2 hw b hb)).symm
    · exact .inr ⟨want2.trans hw, hv, hu⟩
  have reads2 : wantF all o2 T1 = .go → readsOf o2 (evA T) B = readsOf o2 (evA T1) (apB u1 B) := by
    intro hw
    rw [reads_congrR (B := apB u1 B) ops2, reads_congr o2 (evA T) (B := apB u1 B) (B' := B) fun b hb => ?_]
    rw [← reads_congrR (B := apB u1 B) ops2] at hb
    exact apB_not fun hk => p1 b (wr1 b hk) (rd2 hw b hb)
  have old1 : ∀ b, bitM l2.mt b = true → apB u1 B b ≠ none → B b ≠ none := by
    intro b hb hn
    rcases ups_old ur1 k1 hn with h | h
    · exact h
    · by_cases hk : b ∈ Res.keys u1
      · cases hBb : B b with
        | some y => simp
        | none => exact absurd hb (p4 b (cr1 b hk hBb))
      · rwa [apB_not hk] at hn
  have ur2' : UpsR o2.dst u2 T B T (apB u2 B) := ups_move ur2 k2 T B (fun b hb => by rw [apB_not fun hk => kk b hk hb]) fun b x hx b' hb' hn => old1 b' (mu2 b x hx b' hb') hn
  have put2 : ∃ Tm, PutR N o2.dst v2 T (apB u2 B) Tm ∧ ∀ t, o2.dst ≠ some t → Tm t = T t := by
    cases hd : o2.dst with
    | none => exact ⟨T, rfl, fun _ _ => rfl⟩
    | some d =>
      rw [hd] at pr2
      refine ⟨upd T d v2, ⟨pr2.1, fun b hb => ?_, rfl⟩, fun t ht => upd_ne _ _ fun e => ht (by rw [e])⟩
      by_cases hk : b ∈ Res.keys u2
      · rw [apB_key (B' := apB u1 B) k2 hk]; exact pr2.2.1 b hb
      · have h := pr2.2.1 b hb
        rw [apB_not hk] at h ⊢
        exact old1 b (mv2 (by rw [hd]; simp) b hb) h
  obtain ⟨Tm, pm, hTm⟩ := put2
  have agree2 : ∀ t ∈ looksL all o1, Tm t = T t := fun t ht => hTm t fun e => a2 t e ht
  have ops1 : ∀ x ∈ o1.op.operands.toList, evA Tm x = evA T x := by
    intro x hx
    cases x with
    | tmp t => exact agree2 t (by simp [looksL]; exact .inl (mem_tmps hx))
    | _ => rfl
  have want1 : wantF all o1 Tm = wantF all o1 T := by
    unfold wantF
    cases hg : o1.guard with
    | none => rfl
    | some jw =>
      obtain ⟨j, want⟩ := jw
      cases hd : dstOf all j with
      | none => simp only [hd]
      | some t => simp only [hd, agree2 t (by simp [looksL, hg, hd])]
  have s1' : SrcF P S all o1 Tm (apB u2 B) v1 u1 := by
    rcases s1 with ⟨hw, ho⟩ | ⟨hw, hv, hu⟩
    · refine src_congr (T := T) (B := B) agree2 (fun b hb => ?_) (.inl ⟨hw, ho⟩)
      exact apB_not fun hk => p2 b (wr2 b hk) (rd1 hw b hb)
    · exact .inr ⟨want1.trans hw, hv, hu⟩
  have reads1 : wantF all o1 T = .go → readsOf o1 (evA Tm) (apB u2 B) = readsOf o1 (evA T) B := by
    intro hw
    rw [reads_congrR (B := apB u2 B) ops1]
    exact (reads_congr o1 (evA T) (B := B) (B' := apB u2 B) fun b hb => (apB_not fun hk => p2 b (wr2 b hk) (rd1 hw b hb)).symm).symm
  have ur1' : UpsR o1.dst u1 Tm (apB u2 B) Tm (apB u1 (apB u2 B)) := ups_move ur1 k1 Tm (apB u2 B) (fun b hb => by rw [apB_not (kk b hb)]) fun b x hx b' hb' hn => apB_some hn
  have hB : apB u1 (apB u2 B) = apB u2 (apB u1 B) := by
    funext b
    by_cases h1 : b ∈ Res.keys u1
    · rw [apB_not (ups := u2) (kk b h1), apB_key (B' := B) k1 h1]
    · rw [apB_not h1]
      by_cases h2 : b ∈ Res.keys u2
      · exact apB_key k2 h2
      · rw [apB_not h2, apB_not h2, apB_not h1]
  have put1 : PutR N o1.dst v1 Tm (apB u1 (apB u2 B)) T2 := by
    cases hd1 : o1.dst with
    | none =>
      rw [hd1] at pr1
      rw [show T1 = T from pr1] at pr2
      show T2 = Tm
      cases hd2 : o2.dst with
      | none => rw [hd2] at pr2 pm; rw [show T2 = T from pr2, show Tm = T from pm]
      | some d2 => rw [hd2] at pr2 pm; rw [pr2.2.2, pm.2.2]
    | some d1 =>
      rw [hd1] at pr1
      refine ⟨pr1.1, fun b hb => ?_, ?_⟩
      · have h := pr1.2.1 b hb
        by_cases hk : b ∈ Res.keys u1
        · rw [apB_key (B' := B) k1 hk]; exact h
        · rw [apB_not hk] at h ⊢
          exact apB_some h
      · have e1 := pr1.2.2
        cases hd2 : o2.dst with
        | none =>
          rw [hd2] at pr2 pm
          rw [show T2 = T1 from pr2, show Tm = T from pm, e1]
        | some d2 =>
          rw [hd2] at pr2 pm
          rw [pr2.2.2, pm.2.2, e1]
          have hne : d1 ≠ d2 := fun e => (a1 d1 hd1).2 (by rw [hd2, e])
          funext t
          by_cases g1 : t = d1
          · subst g1; rw [upd_ne _ _ hne, upd_same, upd_same]
          · rw [upd_ne _ _ g1]
            by_cases g2 : t = d2
            · subst g2; rw [upd_same, upd_same]
            · rw [upd_ne _ _ g2, upd_ne _ _ g2, upd_ne _ _ g1]
  refine ⟨Tm, apB u2 B, ⟨v2, u2, s2', k2, ur2', pm, rfl, fun hw b hb => ?_, wr2, fun b hk hn => cr2 b hk (by rw [apB_not fun h => kk b h hk]; exact hn), mv2, mu2⟩,
    ⟨v1, u1, s1', k1, ur1', put1, hB.symm, fun hw b hb => ?_, wr1, fun b hk hn => cr1 b hk (by rwa [apB_not (kk b hk)] at hn), mv1, mu1⟩⟩
  · rw [reads2 (want2 ▸ hw)] at hb
    exact rd2 (want2 ▸ hw) b hb
  · rw [reads1 (want1 ▸ hw)] at hb
    exact rd1 (want1 ▸ hw) b hb
end
end Go.Vm
