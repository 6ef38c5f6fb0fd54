/- What an operation reads: the evaluator gives the same where its operands and their boxes are the same. -/
import Derived.Test.YticnipadahihhaaVmP
namespace Go.Vm
section
variable {S : Tys} {B B' : Nat → Option Bx}

theorem mem_sub1 {c : AV} {cs : List AV} {b : Nat} (h : b ∈ c.mens1) : b ∈ AV.mensL (c :: cs) := mem_mensL List.mem_cons_self h
theorem mem_subL {c : AV} {cs : List AV} {b : Nat} (h : b ∈ AV.mensL cs) : b ∈ AV.mensL (c :: cs) := by
  simp only [AV.mensL]
  split
  · exact h
  · exact List.mem_cons_of_mem _ (List.mem_append_right _ h)
theorem frzCap_congr : ∀ {cs : List Cap}, (∀ b ∈ capMens cs, B b = B' b) → ∀ (k : List D → List (Nat × Option Bx) → Res), frzCap B cs k = frzCap B' cs k
  | [], _, k => rfl
  | .dat x :: r, h, k => by
    simp only [frzCap]
    exact frzCap_congr (cs := r) h _
  | .box b :: r, h, k => by
    have h1 : ∀ c ∈ capMens r, B c = B' c := fun c hc => h c (by simp [capMens, hc])
    simp only [frzCap, h b (by simp [capMens]), fun k => frzCap_congr (cs := r) h1 k]
theorem frzK_congr {v : AV} (h : ∀ b ∈ v.mens1, B b = B' b) (k : D → List (Nat × Option Bx) → Res) : frzK B v k = frzK B' v k := by
  cases v with
  | own b sz n => simp only [frzK]; rw [h b (by simp [AV.mens1])]
  | fnv f cs => simp only [frzK]; exact frzCap_congr h _
  | _ => rfl
theorem frzLK_congr : ∀ {cs : List AV}, (∀ b ∈ AV.mensL cs, B b = B' b) → ∀ (k : List D → List (Nat × Option Bx) → Res), frzLK B cs k = frzLK B' cs k
  | [], _, k => rfl
  | c :: cs, h, k => by
    simp only [frzLK]
    rw [frzK_congr fun b hb => h b (mem_sub1 hb)]
    congr 1
    funext x u
    exact frzLK_congr (fun b hb => h b (mem_subL hb)) _
theorem frzAK_congr {v : AV} (h : ∀ b ∈ v.mens, B b = B' b) (k : D → List (Nat × Option Bx) → Res) : frzAK B v k = frzAK B' v k := by
  cases v with
  | agg cs => simp only [frzAK]; exact frzLK_congr h _
  | tup cs => rfl
  | d x => rfl
  | own b sz n => exact frzK_congr (v := .own b sz n) h k
  | fnv f cs => exact frzK_congr (v := .fnv f cs) h k
  | _ => rfl
theorem frzALK_congr : ∀ {vs : List AV}, (∀ v ∈ vs, ∀ b ∈ v.mens, B b = B' b) → ∀ (k : List D → List (Nat × Option Bx) → Res), frzALK B vs k = frzALK B' vs k
  | [], _, k => rfl
  | v :: vs, h, k => by
    simp only [frzALK]
    rw [frzAK_congr (h v List.mem_cons_self)]
    congr 1
    funext x u
    exact frzALK_congr (fun v hv => h v (List.mem_cons_of_mem _ hv)) _
theorem srcK_congr {sz : Nat} {v : AV} (h : ∀ b ∈ v.mens, B b = B' b) (k : List D → Res) : srcK B sz v k = srcK B' sz v k := by
  cases v with
  | own b sz n => simp only [srcK]; rw [h b (by simp [AV.mens])]
  | sub b v i => simp only [srcK]; rw [h b (by simp [AV.mens])]
  | d y => cases y <;> rfl
  | _ => rfl
theorem viewE_congr {e sz : Nat} {v : AV} (h : ∀ b ∈ v.mens, B b = B' b) : viewE B e sz v = viewE B' e sz v := by
  cases v with
  | view b sz1 lo hi =>
    have hb : B b = B' b := h b (by simp [AV.mens])
    simp only [viewE, hb]
  | _ => rfl
theorem oldK_congr {dr : Bool} {e sz : Nat} {v : AV} (h : ∀ b ∈ v.mens, B b = B' b) (k : List D → Bool → List (Nat × Option Bx) → Res) : oldK B dr e sz v k = oldK B' dr e sz v k := by
  cases v with
  | own b sz n => simp only [oldK]; rw [h b (by simp [AV.mens])]
  | sub b v i => simp only [oldK]; rw [h b (by simp [AV.mens])]
  | d y => cases y <;> rfl
  | _ => rfl
theorem dstV_congr {v : AV} (h : ∀ b ∈ v.mens, B b = B' b) : dstV B v = dstV B' v := by
  cases v with
  | own b sz n => simp only [dstV]; rw [h b (by simp [AV.mens])]
  | view b sz lo hi => simp only [dstV]; rw [h b (by simp [AV.mens])]
  | _ => rfl
theorem srcV_congr {sz : Nat} {v : AV} (h : ∀ b ∈ v.mens, B b = B' b) (k : List D → Res) : srcV B sz v k = srcV B' sz v k := by
  cases v with
  | own b sz n => simp only [srcV]; rw [h b (by simp [AV.mens])]
  | view b sz lo hi => simp only [srcV]; rw [h b (by simp [AV.mens])]
  | d y => cases y <;> rfl
  | _ => rfl
theorem clearE_congr {T : TypeId} {v : AV} (h : ∀ b ∈ v.mens, B b = B' b) : clearE S B T v = clearE S B' T v := by
  cases v with
  | view b sz lo hi => simp only [clearE]; rw [h b (by simp [AV.mens])]
  | _ => rfl
theorem copyE_congr {T : TypeId} {x y : AV} (hx : ∀ b ∈ x.mens, B b = B' b) (hy : ∀ b ∈ y.mens, B b = B' b) : copyE S B T x y = copyE S B' T x y := by
  simp only [copyE, dstV_congr hx, fun sz k => srcV_congr (sz := sz) hy k]
theorem srcM_congr {v : AV} (h : ∀ b ∈ v.mens, B b = B' b) : srcM B v = srcM B' v := by
  cases v with
  | own b sz n => simp only [srcM]; rw [h b (by simp [AV.mens])]
  | _ => rfl
theorem oldM_congr {dr : Bool} {c et ie : Nat} {v : AV} (h : ∀ b ∈ v.mens, B b = B' b) : oldM B dr c et ie v = oldM B' dr c et ie v := by
  cases v with
  | own b sz n => simp only [oldM]; rw [h b (by simp [AV.mens])]
  | _ => rfl
theorem matAt_congr {v : AV} (h : ∀ b ∈ v.mens, B b = B' b) : matAt B v = matAt B' v := by
  cases v with
  | eptr b sz i off => simp only [matAt, h b (by simp [AV.mens])]
  | _ => rfl
theorem stBig_congr {ti : TI} {n : Nat} {x y : AV} (h : ∀ b ∈ x.mens, B b = B' b) : stBig B ti n x y = stBig B' ti n x y := by
  cases x with
  | ptr b off =>
    have hb := h b (by simp [AV.mens])
    cases off with
    | zero => cases y with
      | d z => cases z <;> first | rfl | simp only [stBig, hb]
      | _ => rfl
    | succ => rfl
  | _ => rfl
theorem stMat_congr {ti : TI} {T : TypeId} {q : Nat × Nat × Nat × Nat × List (Option (List D)) × Nat} {y : AV} (h : ∀ b ∈ y.mens, B b = B' b) : stMat B ti T q y = stMat B' ti T q y := by
  obtain ⟨b, et, ie, v, rows, i⟩ := q
  unfold stMat
  cases hg : isAggT ti.und with
  | true => cases y <;> rfl
  | false =>
    cases y with
    | own c s n => simp only [h c (by simp [AV.mens])]
    | _ => rfl
theorem stPart_congr {l : List AV} {x : AV} (h : ∀ b ∈ x.mens, B b = B' b) : stPart B l x = stPart B' l x := by
  cases x with
  | ptr b off => simp only [stPart, h b (by simp [AV.mens])]
  | eptr b sz i off => simp only [stPart, h b (by simp [AV.mens])]
  | sptr b sz i j => simp only [stPart, h b (by simp [AV.mens])]
  | mptr b v i j => simp only [stPart, h b (by simp [AV.mens])]
  | _ => rfl
theorem resz_mens {t : TypeId} {v : AV} : (resz S t v).mens = v.mens := by
  rcases resz_or (S := S) t v with e | ⟨n, m, e1, e2⟩
  · rw [e]
  · rw [e2, e1]; rfl
theorem mapSet_congr {T : TypeId} {m i x : AV} (h : ∀ b ∈ m.mens, B b = B' b) (hx : ∀ b ∈ x.mens, B b = B' b) : mapSet S B T m i x = mapSet S B' T m i x := by
  have hf : ∀ et k, frzAK B (resz S et x) k = frzAK B' (resz S et x) k := fun et k => frzAK_congr (by rw [resz_mens]; exact hx) k
  unfold mapSet
  cases mapTy S T with
  | none => rfl
  | some q =>
    obtain ⟨kt, et, kd⟩ := q
    cases m with
    | mp b =>
      cases i with
      | d k => simp only [h b (by simp [AV.mens]), hf]
      | _ => rfl
    | _ => rfl
theorem fillE_congr {e size : Nat} {ρ : Operand → AV} : ∀ (ps : List (Nat × Operand)) (es : List D) (us : List (Nat × Option Bx)) (k : List D → List (Nat × Option Bx) → Res),
    (∀ p ∈ ps, ∀ b ∈ (ρ p.2).mens, B b = B' b) → fillE S B e size ρ es ps us k = fillE S B' e size ρ es ps us k
  | [], es, us, k, _ => rfl
  | (i, x) :: ps, es, us, k, h => by
    have ih := fun es us => fillE_congr (ρ := ρ) (e := e) (size := size) ps es us k fun p hp => h p (List.mem_cons_of_mem _ hp)
    simp only [fillE]
    rw [frzAK_congr (B := B) (B' := B') (by rw [resz_mens]; exact h (i, x) List.mem_cons_self)]
    simp only [ih]
theorem fillM_congr {dr : Bool} {ie n : Nat} {ρ : Operand → AV} {ps : List (Nat × Operand)} (h : ∀ p ∈ ps, ∀ b ∈ (ρ p.2).mens, B b = B' b) : fillM B dr ie ρ n ps = fillM B' dr ie ρ n ps := by
  unfold fillM
  split
  · rename_i x
    have hx := h (0, x) List.mem_cons_self
    cases hv : ρ x with
    | own c s m => rw [hv] at hx; simp only [hx c (by simp [AV.mens])]
    | _ => rfl
  · rfl
theorem mem_opndMens {ρ : Operand → AV} {b : Nat} : ∀ {l : List Operand} {x : Operand}, x ∈ l → b ∈ (ρ x).mens → b ∈ opndMens ρ l
  | y :: l, x, hx, hb => by
    simp only [opndMens, List.mem_append]
    cases hx with
    | head => exact .inl hb
    | tail _ hx => exact .inr (mem_opndMens hx hb)
theorem handL_congr : ∀ (f : Nat) (todo : List Nat) (acc : List (Nat × Bx)), (∀ b ∈ handV B f todo acc, B b = B' b) → handL B f todo acc = handL B' f todo acc ∧ handV B f todo acc = handV B' f todo acc
  | 0, _, _, _ => ⟨rfl, rfl⟩
  | _ + 1, [], _, _ => ⟨rfl, rfl⟩
  | f + 1, b :: r, acc, h => by
    have hb := h b (by simp [handV])
    simp only [handL, handV]
    rw [← hb]
    cases ha : lk acc b with
    | some y =>
      obtain ⟨h1, h2⟩ := handL_congr f r acc fun c hc => h c (by simp [handV, ha, hc])
      exact ⟨h1, by simp only [h2]⟩
    | none =>
      cases hB : B b with
      | some x =>
        obtain ⟨h1, h2⟩ := handL_congr f (x.mens ++ r) ((b, x) :: acc) fun c hc => h c (by simp only [handV, ha, hB]; exact List.mem_cons_of_mem _ hc)
        exact ⟨h1, by simp only [h2]⟩
      | none =>
        obtain ⟨h1, h2⟩ := handL_congr f r acc fun c hc => h c (by simp only [handV, ha, hB]; exact List.mem_cons_of_mem _ hc)
        exact ⟨h1, by simp only [h2]⟩
theorem mensA_app : ∀ (xs ys : List AV), mensA (xs ++ ys) = mensA xs ++ mensA ys
  | [], ys => rfl
  | x :: xs, ys => by simp [mensA, mensA_app xs ys]
theorem mensA_d : ∀ (l : List D), mensA (l.map .d) = []
  | [] => rfl
  | x :: l => by simp [mensA, mensA_d l, AV.mens]
theorem mensA_cap : ∀ (l : List Cap), mensA (capAV l) = capMens l
  | [] => rfl
  | .box b :: l => by simp [capAV, mensA, capMens, mensA_cap l, AV.mens]
  | .dat x :: l => by simp [capAV, mensA, capMens, mensA_cap l, AV.mens]
theorem mensA_zip {ρ : Operand → AV} : ∀ (xs : List Operand) (ts : List TypeId), xs.length = ts.length → mensA (zipResz S (xs.map ρ) ts) = opndMens ρ xs
  | [], [], _ => rfl
  | [], _ :: _, h => by cases h
  | _ :: _, [], h => by cases h
  | x :: xs, t :: ts, h => by simp [zipResz, mensA, opndMens, resz_mens, mensA_zip xs ts (by simpa using h)]

theorem handV_iter {b m n : Nat} {seen : List Nat} {f : Nat} (h : B b = some (.iter (some m) n seen)) : b ∈ handV B (f + 2) [b] [] ∧ m ∈ handV B (f + 2) [b] [] := by
  refine ⟨by simp [handV], ?_⟩
  by_cases e : m = b
  · subst e; simp [handV]
  · simp only [handV, lk, h, Bx.mens]
    have : Nat.beq b m = false := by
      rw [Bool.eq_false_iff]; intro hb; exact e (Nat.eq_of_beq_eq_true hb).symm
    simp [handV, lk, this]
/-- The boxes that are not looked at do not matter. -/
theorem eff_congrB {dr : Bool} (o : Oper) (ρ : Operand → AV) (h : ∀ b ∈ readsOf o ρ B, B b = B' b) : eff S dr o ρ B = eff S dr o ρ B' := by
  obtain ⟨dst, op, type, pos, after, guard⟩ := o
  cases op with
  | load t x =>
    have hx : ∀ b ∈ (ρ x).mens, B b = B' b := fun b hb => h b (mem_opndMens (x := x) (by simp [Op.operands]) hb)
    simp only [eff]
    cases hv : ρ x with
    | ptr b off => rw [hv] at hx; simp only [hx b (by simp [AV.mens])]
    | eptr b sz i off => rw [hv] at hx; simp only [hx b (by simp [AV.mens])]
    | sptr b sz i j => rw [hv] at hx; simp only [hx b (by simp [AV.mens])]
    | mptr b v i j => rw [hv] at hx; simp only [hx b (by simp [AV.mens])]
    | d y => cases y <;> rfl
    | _ => rfl
  | store t x y =>
    have hx : ∀ b ∈ (ρ x).mens, B b = B' b := fun b hb => h b (mem_opndMens (x := x) (by simp [Op.operands]) hb)
    have hy : ∀ b ∈ (ρ y).mens, B b = B' b := fun b hb => h b (mem_opndMens (x := y) (by simp [Op.operands]) hb)
    simp only [eff, matAt_congr hx, stBig_congr hx, stPart_congr hx, fun ti T p => stMat_congr (ti := ti) (T := T) (q := p) hy]
  | indexAddr t x i =>
    have hx : ∀ b ∈ (ρ x).mens, B b = B' b := fun b hb => h b (mem_opndMens (x := x) (by simp [Op.operands]) hb)
    simp only [eff]
    cases S t with
    | none => rfl
    | some ti =>
      obtain ⟨und, sz, by', z⟩ := ti
      cases ρ i with
      | d y =>
        cases y with
        | int k n =>
          cases hv : ρ x with
          | own b sz n =>
            rw [hv] at hx
            have hb := hx b (by simp [AV.mens])
            cases und <;> first
              | rfl
              | simp only [hb]
          | view b sz lo hi =>
            rw [hv] at hx
            have hb := hx b (by simp [AV.mens])
            cases und <;> first
              | rfl
              | simp only [hb]
          | sub b v i =>
            rw [hv] at hx
            have hb := hx b (by simp [AV.mens])
            cases und <;> first
              | rfl
              | simp only [hb]
          | ptr b off =>
            rw [hv] at hx
            have hb := hx b (by simp [AV.mens])
            cases und <;> first
              | rfl
              | simp only [hb]
          | d y => cases y <;> cases und <;> rfl
          | _ => cases und <;> rfl
        | _ => rfl
      | _ => rfl
  | slice t x lo hi mx =>
    have hx : ∀ b ∈ (ρ x).mens, B b = B' b := fun b hb => h b (mem_opndMens (x := x) (by simp [Op.operands]) hb)
    simp only [eff]
    cases S t with
    | none => rfl
    | some ti =>
      obtain ⟨und, sz, by', z⟩ := ti
      cases mx with
      | some m => rfl
      | none =>
        cases hv : ρ x with
        | own b sz n =>
          rw [hv] at hx
          have hb := hx b (by simp [AV.mens])
          cases und <;> first
            | rfl
            | simp only [hb]
        | ptr b off =>
          rw [hv] at hx
          have hb := hx b (by simp [AV.mens])
          cases und <;> cases off <;> first
            | rfl
            | simp only [hb]
        | d y => cases y <;> cases und <;> rfl
        | _ => cases und <;> rfl
  | lookup t x i ok =>
    have hx : ∀ b ∈ (ρ x).mens, B b = B' b := fun b hb => h b (mem_opndMens (x := x) (by simp [Op.operands]) hb)
    simp only [eff]
    cases mapTy S t with
    | none => rfl
    | some q =>
      obtain ⟨kt, et, kd⟩ := q
      cases hv : ρ x with
      | mp b =>
        rw [hv] at hx
        cases ρ i with
        | d k => simp only [hx b (by simp [AV.mens])]
        | _ => rfl
      | _ => rfl
  | makeMap t r => cases r <;> rfl
  | range t x =>
    have hx : ∀ b ∈ (ρ x).mens, B b = B' b := fun b hb => h b (mem_opndMens (x := x) (by simp [Op.operands]) hb)
    simp only [eff]
    cases dst with
    | none => rfl
    | some s =>
      cases mapTy S t with
      | none => rfl
      | some q =>
        cases hv : ρ x with
        | mp b => rw [hv] at hx; simp only [hx b (by simp [AV.mens])]
        | _ => rfl
  | next x str =>
    have h' : ∀ b ∈ opndMens ρ [x] ++ handV B 200 (opndMens ρ [x]) [], B b = B' b := h
    simp only [eff]
    cases str with
    | true => rfl
    | false =>
      cases hv : ρ x with
      | ptr b off =>
        have e : opndMens ρ [x] = [b] := by simp [opndMens, hv, AV.mens]
        rw [e] at h'
        have hb : B b = B' b := h' b (by simp)
        cases off with
        | zero =>
          simp only
          rw [← hb]
          cases hB : B b with
          | none => rfl
          | some y =>
            cases y with
            | iter m n seen =>
              cases m with
              | none => rfl
              | some m => simp only [h' m (List.mem_append_right _ (handV_iter (f := 198) hB).2)]
            | _ => rfl
        | succ k => rfl
      | _ => rfl
  | entry x =>
    have h' : ∀ b ∈ opndMens ρ [x] ++ handV B 200 (opndMens ρ [x]) [], B b = B' b := h
    simp only [eff]
    cases hv : ρ x with
    | ptr b off =>
      have e : opndMens ρ [x] = [b] := by simp [opndMens, hv, AV.mens]
      rw [e] at h'
      have hb : B b = B' b := h' b (by simp)
      cases off with
      | zero =>
        simp only
        rw [← hb]
        cases hB : B b with
        | none => rfl
        | some y =>
          cases y with
          | iter m n seen =>
            cases m with
            | none => rfl
            | some m =>
              cases seen with
              | nil => rfl
              | cons j r => simp only [h' m (List.mem_append_right _ (handV_iter (f := 198) hB).2)]
          | _ => rfl
      | succ k => rfl
    | _ => rfl
  | mapUpdate t m i x =>
    have hm : ∀ b ∈ (ρ m).mens, B b = B' b := fun b hb => h b (mem_opndMens (x := m) (by simp [Op.operands]) hb)
    have hx : ∀ b ∈ (ρ x).mens, B b = B' b := fun b hb => h b (mem_opndMens (x := x) (by simp [Op.operands]) hb)
    simp only [eff, mapSet_congr hm hx]
  | insert t m i x =>
    have hm : ∀ b ∈ (ρ m).mens, B b = B' b := fun b hb => h b (mem_opndMens (x := m) (by simp [Op.operands]) hb)
    have hx : ∀ b ∈ (ρ x).mens, B b = B' b := fun b hb => h b (mem_opndMens (x := x) (by simp [Op.operands]) hb)
    simp only [eff, mapSet_congr hm hx]
  | buildSlice t n ps =>
    have hx : ∀ p ∈ ps.toList, ∀ b ∈ (ρ p.2).mens, B b = B' b := fun p hp b hb => h b (mem_opndMens (x := p.2) (by simp [Op.operands]; exact ⟨_, by simpa using hp⟩) hb)
    simp only [eff, fillE_congr ps.toList _ _ _ hx, fun ie => fillM_congr (dr := dr) (ie := ie) (n := n) hx]
  | call c =>
    obtain ⟨callee, args, argTypes⟩ := c
    cases callee with
    | invoke => rfl
    | value f =>
      have hr : ∀ b ∈ opndMens ρ (f :: args.toList) ++ handV B 200 (opndMens ρ args.toList ++ (ρ f).mens) [], B b = B' b := h
      have hx : ∀ x ∈ args.toList, ∀ b ∈ (ρ x).mens, B b = B' b := fun x hx b hb => hr b (List.mem_append_left _ (mem_opndMens (x := x) (List.mem_cons_of_mem _ hx) hb))
      have hf : ∀ b ∈ (ρ f).mens, B b = B' b := fun b hb => hr b (List.mem_append_left _ (mem_opndMens (x := f) List.mem_cons_self hb))
      have hz : ∀ v ∈ zipResz S (args.toList.map ρ) argTypes.toList, ∀ b ∈ v.mens, B b = B' b := by
        intro v hv b hb
        obtain ⟨j, hj⟩ := List.getElem?_of_mem hv
        obtain ⟨t, x, hx1, rfl⟩ := zipResz_get _ _ j v hj
        rw [resz_mens] at hb
        have := List.mem_of_getElem? hx1
        simp only [List.mem_map] at this
        obtain ⟨y, hy, rfl⟩ := this
        exact hx y hy b hb
      have hh := (handL_congr 200 (opndMens ρ args.toList ++ (ρ f).mens) [] fun b hb => hr b (List.mem_append_right _ hb)).1
      simp only [eff]
      cases hv : ρ f with
      | d y =>
        cases y with
        | fn g caps =>
          simp only
          cases hl : Nat.beq args.size argTypes.size with
          | false => rfl
          | true =>
            have hl := Nat.eq_of_beq_eq_true hl
            simp only [frzALK_congr hz]
            congr 1
            unfold callXOf handed
            rw [mensA_app, mensA_d, List.append_nil, mensA_zip _ _ (by simpa using hl)]
            rw [hv] at hh
            simp only [AV.mens, List.append_nil] at hh
            rw [hh]
        | _ => rfl
      | fnv g caps =>
        simp only
        cases hl : Nat.beq args.size argTypes.size with
        | false => rfl
        | true =>
          have hl := Nat.eq_of_beq_eq_true hl
          rw [hv] at hf hh
          simp only [frzALK_congr hz, frzCap_congr hf]
          congr 1
          unfold callXOf handed
          rw [mensA_app, mensA_cap, mensA_zip _ _ (by simpa using hl)]
          simp only [AV.mens] at hh
          rw [hh]
      | _ => rfl
    | builtin bi =>
      have hx : ∀ x ∈ args.toList, ∀ b ∈ (ρ x).mens, B b = B' b := by
        intro x hx b hb
        exact h b (mem_opndMens (x := x) (by simp [Op.operands, Call.operands]; exact (by simpa using hx)) hb)
      have hm : ∀ {v : AV} {l : List AV}, args.toList.map ρ = l → v ∈ l → ∀ b ∈ v.mens, B b = B' b := by
        intro v l he hv b hb
        rw [← he] at hv
        simp only [List.mem_map] at hv
        obtain ⟨y, hy, rfl⟩ := hv
        exact hx y hy b hb
      cases bi with
      | clear =>
        simp only [eff]
        split
        · rename_i v t _ he _
          exact clearE_congr (hm he (by simp))
        · rfl
      | copy =>
        simp only [eff]
        split
        · rename_i x y t _ he _
          exact copyE_congr (hm he (by simp)) (hm he (by simp))
        · rfl
      | append =>
        simp only [eff]
        split
        · rename_i s x _ _ he _
          have hs : ∀ b ∈ s.mens, B b = B' b := fun b hb => by
            have : s ∈ args.toList.map ρ := by rw [he]; simp
            simp only [List.mem_map] at this
            obtain ⟨y, hy, rfl⟩ := this
            exact hx y hy b hb
          have hs' : ∀ b ∈ x.mens, B b = B' b := fun b hb => by
            have : x ∈ args.toList.map ρ := by rw [he]; simp
            simp only [List.mem_map] at this
            obtain ⟨y, hy, rfl⟩ := this
            exact hx y hy b hb
          simp only [viewE_congr hs, oldK_congr hs, srcK_congr hs', srcM_congr hs', fun c et ie => oldM_congr (dr := dr) (c := c) (et := et) (ie := ie) hs]
        · rfl
      | len =>
        simp only [eff]
        split
        · rename_i v t _ he _
          have hs : ∀ b ∈ v.mens, B b = B' b := fun b hb => by
            have : v ∈ args.toList.map ρ := by rw [he]; simp
            simp only [List.mem_map] at this
            obtain ⟨y, hy, rfl⟩ := this
            exact hx y hy b hb
          cases S t with
          | none => rfl
          | some ti =>
            obtain ⟨und, sz, by', z⟩ := ti
            cases v with
            | own b sz n =>
              have hb := hs b (by simp [AV.mens])
              cases und <;> first
                | rfl
                | simp only [hb]
            | sub b v i =>
              have hb := hs b (by simp [AV.mens])
              cases und <;> first
                | rfl
                | simp only [hb]
            | mp b =>
              have hb := hs b (by simp [AV.mens])
              cases und <;> first
                | rfl
                | simp only [hb]
            | d y => cases y <;> cases und <;> rfl
            | _ => cases und <;> rfl
        · rfl
      | _ => rfl
  | _ => rfl
theorem reads_congr (o : Oper) (ρ : Operand → AV) (h : ∀ b ∈ readsOf o ρ B, B b = B' b) : readsOf o ρ B = readsOf o ρ B' := by
  obtain ⟨dst, op, type, pos, after, guard⟩ := o
  cases op with
  | call c =>
    obtain ⟨callee, args, argTypes⟩ := c
    cases callee with
    | value f =>
      have hr : ∀ b ∈ opndMens ρ (f :: args.toList) ++ handV B 200 (opndMens ρ args.toList ++ (ρ f).mens) [], B b = B' b := h
      have hh := (handL_congr 200 (opndMens ρ args.toList ++ (ρ f).mens) [] fun b hb => hr b (List.mem_append_right _ hb)).2
      show _ ++ _ = _ ++ _
      rw [hh]
    | _ => rfl
  | next x str =>
    have hr : ∀ b ∈ opndMens ρ [x] ++ handV B 200 (opndMens ρ [x]) [], B b = B' b := h
    have hh := (handL_congr 200 (opndMens ρ [x]) [] fun b hb => hr b (List.mem_append_right _ hb)).2
    show _ ++ _ = _ ++ _
    rw [hh]
  | entry x =>
    have hr : ∀ b ∈ opndMens ρ [x] ++ handV B 200 (opndMens ρ [x]) [], B b = B' b := h
    have hh := (handL_congr 200 (opndMens ρ [x]) [] fun b hb => hr b (List.mem_append_right _ hb)).2
    show _ ++ _ = _ ++ _
    rw [hh]
  | _ => rfl
end
end Go.Vm
