/- What an operation reads: the evaluator gives the same where its operands and their boxes are the same. -/
import Derived.Test.YtgfaonnajdoeoaaVmP
namespace Go.Vm
section
variable {S : Tys} {B B' : Nat → Option Bx}

theorem mens_men {v : AV} {b : Nat} {bx : List (Nat × Bx)} (h : v.okIn bx = true) (hm : v.men b = true) : b ∈ v.mens := by
  have lst : ∀ {cs : List AV}, AV.okIn.okL bx cs = true → AV.menL b cs = true → b ∈ AV.mens.mensL cs := by
    intro cs
    induction cs with
    | nil => intro _ h; cases h
    | cons c cs ih =>
      intro h hm
      simp only [AV.okIn.okL] at h
      simp only [AV.menL] at hm
      split at h
      · rename_i h1
        simp only [AV.mens.mensL]
        split at hm
        · rename_i h2
          cases c <;> simp only [AV.men1] at h2 <;> first
            | (cases h2; done)
            | (cases h1; done)
            | (have := Nat.eq_of_beq_eq_true h2; subst this; simp [AV.mens.mens1])
        · have := ih h hm
          cases c <;> simp [AV.mens.mens1, this]
      · cases h
  cases v <;> simp only [AV.men] at hm <;> first
    | (cases hm; done)
    | (have := Nat.eq_of_beq_eq_true hm; subst this; simp [AV.mens])
    | exact lst h hm
theorem bx_mens_men {x : Bx} {b : Nat} {bx : List (Nat × Bx)} (h : x.okIn bx = true) (hm : x.men b = true) : b ∈ x.mens := by
  cases x with
  | row => cases hm
  | var cs fz => exact mens_men (v := .agg cs) h hm

theorem frzK_congr {v : AV} (h : ∀ b ∈ v.mens, B b = B' b) (k : D → List (Nat × Option Bx) → Res) : frzK B v k = frzK B' v k := by
  cases v <;> simp only [frzK]
  rename_i b sz n
  rw [h b (by simp [AV.mens])]
theorem frzLK_congr : ∀ {cs : List AV}, (∀ b ∈ AV.mens.mensL cs, B b = B' b) → ∀ (k : List D → List (Nat × Option Bx) → Res), frzLK B cs k = frzLK B' cs k
  | [], _, k => rfl
  | c :: cs, h, k => by
    have h1 : ∀ b ∈ AV.mens.mensL cs, B b = B' b := fun b hb => h b (by cases c <;> simp [AV.mens.mensL, AV.mens.mens1, hb])
    simp only [frzLK]
    have h2 : ∀ k, frzK B c k = frzK B' c k := by
      intro k
      cases c <;> simp only [frzK]
      rename_i b sz n
      rw [h b (by simp [AV.mens.mensL, AV.mens.mens1])]
    rw [h2]
    congr 1
    funext x u
    exact frzLK_congr h1 _
theorem frzAK_congr {v : AV} (h : ∀ b ∈ v.mens, B b = B' b) (k : D → List (Nat × Option Bx) → Res) : frzAK B v k = frzAK B' v k := by
  cases v <;> simp only [frzAK] <;> first
    | exact frzLK_congr h _
    | exact frzK_congr h _
theorem frzALK_congr : ∀ {vs : List AV}, (∀ v ∈ vs, ∀ b ∈ v.mens, B b = B' b) → ∀ (k : List D → List (Nat × Option Bx) → Res), frzALK B vs k = frzALK B' vs k
  | [], _, k => rfl
  | v :: vs, h, k => by
    simp only [frzALK]
    rw [frzAK_congr (h v List.mem_cons_self)]
    congr 1
    funext x u
    exact frzALK_congr (fun v hv => h v (List.mem_cons_of_mem _ hv)) _
theorem capsK_congr : ∀ {vs : List AV}, (∀ v ∈ vs, ∀ b ∈ v.mens, B b = B' b) → ∀ (k : List D → List (Nat × Option Bx) → Res), eff.capsK B vs k = eff.capsK B' vs k
  | [], _, k => rfl
  | v :: vs, h, k => by
    have ih := fun k => capsK_congr (vs := vs) (fun v hv => h v (List.mem_cons_of_mem _ hv)) k
    have hv := h v List.mem_cons_self
    cases v with
    | ptr b off =>
      cases off with
      | zero =>
        simp only [eff.capsK]
        rw [hv b (by simp [AV.mens])]
        simp only [ih]
      | succ => rfl
    | d x =>
      cases x <;> simp only [eff.capsK]
      exact ih _
    | _ => rfl
theorem srcK_congr {sz : Nat} {v : AV} (h : ∀ b ∈ v.mens, B b = B' b) (k : List D → Res) : srcK B sz v k = srcK B' sz v k := by
  cases v with
  | own b sz n => simp only [srcK]; rw [h b (by simp [AV.mens])]
  | d y => cases y <;> rfl
  | _ => rfl
theorem oldK_congr {e sz : Nat} {v : AV} (h : ∀ b ∈ v.mens, B b = B' b) (k : List D → Bool → List (Nat × Option Bx) → Res) : oldK B e sz v k = oldK B' e sz v k := by
  cases v with
  | own b sz n => simp only [oldK]; rw [h b (by simp [AV.mens])]
  | d y => cases y <;> rfl
  | _ => rfl
theorem resz_mens {t : TypeId} {v : AV} : (resz S t v).mens = v.mens := by
  rcases resz_or (S := S) t v with e | ⟨n, m, e1, e2⟩
  · rw [e]
  · rw [e2, e1]; rfl
theorem fillE_congr {e size : Nat} {ρ : Operand → AV} : ∀ (ps : List (Nat × Operand)) (es : List D) (us : List (Nat × Option Bx)) (k : List D → List (Nat × Option Bx) → Res),
    (∀ p ∈ ps, ∀ b ∈ (ρ p.2).mens, B b = B' b) → fillE S B e size ρ es ps us k = fillE S B' e size ρ es ps us k
  | [], es, us, k, _ => rfl
  | (i, x) :: ps, es, us, k, h => by
    simp only [fillE]
    rw [frzAK_congr (B := B) (B' := B') (by rw [resz_mens]; exact h (i, x) List.mem_cons_self)]
    congr 1
    funext d u
    split
    · split
      · exact fillE_congr ps _ _ k fun p hp => h p (List.mem_cons_of_mem _ hp)
      · rfl
    · rfl
theorem mem_opndMens {ρ : Operand → AV} {b : Nat} : ∀ {l : List Operand} {x : Operand}, x ∈ l → b ∈ (ρ x).mens → b ∈ opndMens ρ l
  | y :: l, x, hx, hb => by
    simp only [opndMens, List.mem_append]
    cases hx with
    | head => exact .inl hb
    | tail _ hx => exact .inr (mem_opndMens hx hb)

/-- The boxes that are not mentioned do not matter. -/
theorem eff_congrB (o : Oper) (ρ : Operand → AV) (h : touches o.op = true → ∀ b ∈ opndMens ρ o.op.operands.toList, B b = B' b) : eff S o ρ B = eff S o ρ B' := by
  obtain ⟨dst, op, type, pos, after, guard⟩ := o
  cases op with
  | load t x =>
    have hx : ∀ b ∈ (ρ x).mens, B b = B' b := fun b hb => h rfl b (mem_opndMens (by simp [Op.operands]) hb)
    simp only [eff]
    cases hv : ρ x with
    | ptr b off => rw [hv] at hx; simp only [hx b (by simp [AV.mens])]
    | eptr b sz i off => rw [hv] at hx; simp only [hx b (by simp [AV.mens])]
    | d y => cases y <;> rfl
    | _ => rfl
  | store t x y =>
    have hx : ∀ b ∈ (ρ x).mens, B b = B' b := fun b hb => h rfl b (mem_opndMens (by simp [Op.operands]) hb)
    simp only [eff]
    cases hv : ρ x with
    | ptr b off => rw [hv] at hx; simp only [hx b (by simp [AV.mens])]
    | eptr b sz i off => rw [hv] at hx; simp only [hx b (by simp [AV.mens])]
    | d y => cases y <;> rfl
    | _ => rfl
  | indexAddr t x i =>
    have hx : ∀ b ∈ (ρ x).mens, B b = B' b := fun b hb => h rfl b (mem_opndMens (by simp [Op.operands]) hb)
    simp only [eff]
    cases S t with
    | none => rfl
    | some ti =>
      obtain ⟨und, sz, by', z⟩ := ti
      cases ρ i with
      | d y =>
        cases y with
        | int k n =>
          cases hv : ρ x with
          | own b sz n =>
            rw [hv] at hx
            have hb := hx b (by simp [AV.mens])
            cases und <;> first
              | rfl
              | simp only [hb]
          | d y => cases y <;> cases und <;> rfl
          | _ => cases und <;> rfl
        | _ => rfl
      | _ => rfl
  | buildSlice t n ps =>
    have hx : ∀ p ∈ ps.toList, ∀ b ∈ (ρ p.2).mens, B b = B' b := fun p hp b hb => h rfl b (mem_opndMens (by simp [Op.operands]; exact ⟨_, by simpa using hp⟩) hb)
    simp only [eff, fillE_congr ps.toList _ _ _ hx]
  | makeFunc fn first caps =>
    have hx : ∀ v ∈ caps.toList.map ρ, ∀ b ∈ v.mens, B b = B' b := by
      intro v hv b hb
      simp only [List.mem_map] at hv
      obtain ⟨x, hx, rfl⟩ := hv
      exact h rfl b (mem_opndMens (by simp [Op.operands]; exact .inr (by simpa using hx)) hb)
    simp only [eff, capsK_congr hx]
  | call c =>
    obtain ⟨callee, args, argTypes⟩ := c
    have hx : ∀ x ∈ args.toList, ∀ b ∈ (ρ x).mens, B b = B' b := by
      intro x hx b hb
      exact h rfl b (mem_opndMens (by simp [Op.operands, Call.operands]; exact .inr (by simpa using hx)) hb)
    cases callee with
    | invoke => rfl
    | value f =>
      have hz : ∀ v ∈ zipResz S (args.toList.map ρ) argTypes.toList, ∀ b ∈ v.mens, B b = B' b := by
        intro v hv b hb
        obtain ⟨j, hj⟩ := List.getElem?_of_mem hv
        obtain ⟨t, x, hx1, rfl⟩ := zipResz_get _ _ j v hj
        rw [resz_mens] at hb
        have := List.mem_of_getElem? hx1
        simp only [List.mem_map] at this
        obtain ⟨y, hy, rfl⟩ := this
        exact hx y hy b hb
      simp only [eff, frzALK_congr hz]
    | builtin bi =>
      cases bi <;> first
        | rfl
        | skip
      · simp only [eff]
        split
        · rename_i s x _ _ he _
          have hs : ∀ b ∈ s.mens, B b = B' b := fun b hb => by
            have : s ∈ args.toList.map ρ := by rw [he]; simp
            simp only [List.mem_map] at this
            obtain ⟨y, hy, rfl⟩ := this
            exact hx y hy b hb
          have hs' : ∀ b ∈ x.mens, B b = B' b := fun b hb => by
            have : x ∈ args.toList.map ρ := by rw [he]; simp
            simp only [List.mem_map] at this
            obtain ⟨y, hy, rfl⟩ := this
            exact hx y hy b hb
          simp only [oldK_congr hs, srcK_congr hs']
        · rfl
      · simp only [eff]
        split
        · rename_i v t _ he _
          have hs : ∀ b ∈ v.mens, B b = B' b := fun b hb => by
            have : v ∈ args.toList.map ρ := by rw [he]; simp
            simp only [List.mem_map] at this
            obtain ⟨y, hy, rfl⟩ := this
            exact hx y hy b hb
          cases S t with
          | none => rfl
          | some ti =>
            obtain ⟨und, sz, by', z⟩ := ti
            cases v with
            | own b sz n =>
              have hb := hs b (by simp [AV.mens])
              cases und <;> first
                | rfl
                | simp only [hb]
            | d y => cases y <;> cases und <;> rfl
            | _ => cases und <;> rfl
        · rfl
  | _ => rfl
end
end Go.Vm
