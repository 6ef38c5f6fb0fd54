/- Bodies: what the evaluator says holds of every run. -/
import Derived.Test.YtgfaonnajdoeoaaVmS
namespace Go.Vm
open Go.RowKit (Below)
section
variable {P : Program} {S : Tys} {N : Nat} {w0 : World} {A0 : Sta}

/-! Forgetting. -/
theorem leT_get {f : Nat → Option Nat} {σ : St} : ∀ {l : List (Nat × AV)}, leT f σ l → ∀ t v, lk l t = some v → leA f (σ.get t) v
  | [], _, t, v, h => by cases h
  | (i, u) :: r, hl, t, v, h => by
    rw [lk_cons] at h
    split at h
    · rename_i e; subst e; cases h; exact hl.1
    · exact leT_get hl.2 t v h
theorem leB_get {f : Nat → Option Nat} {σ : St} : ∀ {l : List (Nat × Bx)}, leB f σ l → ∀ b x, lk l b = some x → leX f (match f b with | some b' => lk σ.bx b' | none => none) b x
  | [], _, t, v, h => by cases h
  | (i, u) :: r, hl, t, v, h => by
    rw [lk_cons] at h
    split at h
    · rename_i e; subst e; cases h; exact hl.1
    · exact leB_get hl.2 t v h
theorem okAll_get {bx : List (Nat × Bx)} : ∀ {l : List (Nat × AV)}, okAll bx l = true → ∀ t v, lk l t = some v → v.okIn bx = true
  | [], _, t, v, h => by cases h
  | (i, u) :: r, hl, t, v, h => by
    simp only [okAll] at hl
    split at hl
    · rename_i hu
      rw [lk_cons] at h
      split at h
      · cases h; exact hu
      · exact okAll_get hl t v h
    · cases hl
theorem okAllB_get {bx : List (Nat × Bx)} : ∀ {l : List (Nat × Bx)}, okAllB bx l = true → ∀ t v, lk l t = some v → v.okIn bx = true
  | [], _, t, v, h => by cases h
  | (i, u) :: r, hl, t, v, h => by
    simp only [okAllB] at hl
    split at hl
    · rename_i hu
      rw [lk_cons] at h
      split at h
      · cases h; exact hu
      · exact okAllB_get hl t v h
    · cases hl
theorem okRn_spec {rn : List (Nat × Option Nat)} : ∀ {l : List (Nat × Bx)} {seen : List Nat}, okRn rn l seen = true →
    (∀ b c, lk l b ≠ none → rnF rn b = some c → c ∉ seen) ∧ (∀ b b' c, lk l b ≠ none → lk l b' ≠ none → rnF rn b = some c → rnF rn b' = some c → b = b')
  | [], seen, _ => ⟨fun b c h => absurd rfl h, fun b b' c h => absurd rfl h⟩
  | (k, x) :: r, seen, h => by
    simp only [okRn] at h
    cases hk : rnF rn k with
    | none =>
      rw [hk] at h
      obtain ⟨h1, h2⟩ := okRn_spec h
      have ne : ∀ b c, rnF rn b = some c → lk ((k, x) :: r) b ≠ none → lk r b ≠ none := by
        intro b c hb hn
        rw [lk_cons] at hn
        split at hn
        · rename_i e; subst e; rw [hk] at hb; cases hb
        · exact hn
      exact ⟨fun b c hb hc => h1 b c (ne b c hc hb) hc, fun b b' c hb hb' hc hc' => h2 b b' c (ne b c hc hb) (ne b' c hc' hb') hc hc'⟩
    | some c0 =>
      rw [hk] at h
      simp only at h
      split at h
      · cases h
      · rename_i hs
        obtain ⟨h1, h2⟩ := okRn_spec h
        have hs' : c0 ∉ seen := by
          intro hc
          rw [List.contains_iff_mem.2 hc] at hs
          cases hs
        have split1 : ∀ b, lk ((k, x) :: r) b ≠ none → b = k ∨ lk r b ≠ none := by
          intro b hb
          rw [lk_cons] at hb
          split at hb
          · rename_i e; exact .inl e
          · exact .inr hb
        refine ⟨fun b c hb hc => ?_, fun b b' c hb hb' hc hc' => ?_⟩
        · rcases split1 b hb with rfl | hb
          · rw [hk] at hc; cases hc; exact hs'
          · intro hm; exact h1 b c hb hc (List.mem_cons_of_mem _ hm)
        · rcases split1 b hb with e | hb
          · rcases split1 b' hb' with e' | hb'
            · rw [e, e']
            · rw [e, hk] at hc; cases hc
              exact absurd List.mem_cons_self (h1 b' c0 hb' hc')
          · rcases split1 b' hb' with e' | hb'
            · rw [e', hk] at hc'; cases hc'
              exact absurd List.mem_cons_self (h1 b c0 hb hc)
            · exact h2 b b' c hb hb' hc hc'

def leLay (f : Nat → Option Nat) (L : Lay) : Lay where
  ι b := match f b with
    | some b' => L.ι b'
    | none => 0
  hd b := match f b with
    | some b' => L.hd b'
    | none => .slice none 0 0
theorem leA_rv {f : Nat → Option Nat} {L : Lay} {w : World} {A : Sta} {u v : AV} {x : Value} (h : leA f u v) (hr : RV L w A u x) : RV (leLay f L) w A v x := by
  cases v with
  | d c => rw [show u = .d c from h] at hr; cases hr with | d hr => exact .d hr
  | ptr b off =>
    simp only [leA] at h
    split at h
    · rename_i b' hb
      subst h
      cases hr
      have : (leLay f L).ι b = L.ι b' := by simp only [leLay, hb]
      rw [← this]
      exact .ptr _ _
    · cases h
  | own b sz n =>
    simp only [leA] at h
    split at h
    · rename_i b' hb
      subst h
      cases hr with
      | own _ _ _ h1 =>
        have : (leLay f L).hd b = L.hd b' := by simp only [leLay, hb]
        rw [← this] at h1 ⊢
        exact .own _ _ _ h1
    · rename_i hb
      obtain ⟨⟨s, rfl⟩, rfl⟩ := h
      cases hr
      have : (leLay f L).hd b = .slice none 0 0 := by simp only [leLay, hb]
      rw [← this]
      exact .own _ _ _ (by rw [this]; rfl)
  | nil sz => rw [show u = .nil sz from h] at hr; cases hr; exact .nil _
  | junk => exact .junk _
  | agg => cases h
  | eptr => cases h
  | undef => cases h
theorem leL_get {f : Nat → Option Nat} : ∀ {us vs : List AV}, leL f us vs → us.length = vs.length ∧ ∀ (j : Nat) u v, us[j]? = some u → vs[j]? = some v → leA f u v
  | [], [], _ => ⟨rfl, fun j u v h => by simp at h⟩
  | [], _ :: _, h => by cases h
  | _ :: _, [], h => by cases h
  | u :: us, v :: vs, h => by
    obtain ⟨h1, h2⟩ := leL_get h.2
    refine ⟨by simp [h1], fun j a b ha hb => ?_⟩
    cases j with
    | zero => simp only [List.getElem?_cons_zero, Option.some.injEq] at ha hb; subst ha; subst hb; exact h.1
    | succ j => exact h2 j a b (by simpa using ha) (by simpa using hb)

theorem le_sound {σ τ : St} {rn : List (Nat × Option Nat)} {a : Act} {w : World} (h : Le σ τ rn) (hr : Rel w0 A0 N σ a w) : Rel w0 A0 N τ a w := by
  obtain ⟨L, A, hI⟩ := hr
  obtain ⟨hT, hB, hok⟩ := h
  rw [Bool.and_eq_true, Bool.and_eq_true] at hok
  obtain ⟨⟨ok1, ok2⟩, ok3⟩ := hok
  have hget : ∀ b x, lk τ.bx b = some x → leX (rnF rn) (match rnF rn b with | some b' => lk σ.bx b' | none => none) b x := leB_get hB
  refine ⟨leLay (rnF rn) L, A, { hI with tm := fun t => ?_, bxs := fun b x hx => ?_, lo := fun b x hx hk => ?_, inj := fun b b' x x' hx hx' hk hk' he => ?_, clT := fun t b hm => ?_, clB := fun b x b' hx hm => ?_ }⟩
  · unfold St.get
    cases ht : lk τ.T t with
    | none => exact .junk _
    | some v => exact leA_rv (leT_get hT t v ht) (hI.tm t)
  · have h1 := hget b x hx
    cases x with
    | var cs fz =>
      obtain ⟨hn, h1⟩ := h1
      cases hb : rnF rn b with
      | none => exact absurd hb hn
      | some b' =>
        rw [hb] at h1
        simp only at h1
        cases hy : lk σ.bx b' with
        | none => rw [hy] at h1; cases h1
        | some y =>
          rw [hy] at h1
          cases y with
          | row => cases h1
          | var cs' fz' =>
            obtain ⟨hl, hf⟩ := h1
            obtain ⟨l1, l2⟩ := leL_get hl
            obtain ⟨C, t, c1, c2, c3, c4⟩ := hI.bxs b' _ hy
            have e : (leLay (rnF rn) L).ι b = L.ι b' := by simp only [leLay, hb]
            refine ⟨C, t, by rw [e]; exact c1, by rw [c2, l1], fun j c v hc hv => ?_, fun hz => ?_⟩
            · have hj : j < cs'.length := by rw [l1]; exact lt_of_get hc
              exact leA_rv (l2 j cs'[j] c (List.getElem?_eq_getElem hj) hc) (c3 j _ v (List.getElem?_eq_getElem hj) hv)
            · rw [e]
              refine c4 ?_
              cases fz' with
              | false => rfl
              | true => rw [hf rfl] at hz; cases hz
    | row et sz es fz =>
      simp only [leX] at h1
      cases hb : rnF rn b with
      | none =>
        rw [hb] at h1
        simp only at h1
        subst h1
        have e : (leLay (rnF rn) L).hd b = .slice none 0 0 := by simp only [leLay, hb]
        refine ⟨[], by rw [e]; exact ⟨by simp, .inl ⟨rfl, rfl⟩⟩, fun i e h => by simp at h, fun i e j c v h => by simp at h, fun g hg => ?_, fun hn => absurd e hn⟩
        rw [e] at hg
        cases hg
      | some b' =>
        rw [hb] at h1
        simp only at h1
        cases hy : lk σ.bx b' with
        | none => rw [hy] at h1; cases h1
        | some y =>
          rw [hy] at h1
          cases y with
          | var => cases h1
          | row et' sz' es' fz' =>
            obtain ⟨rfl, rfl, rfl, rfl⟩ := h1
            obtain ⟨xs, c1, c2, c3, c4, c5⟩ := hI.bxs b' _ hy
            have e : (leLay (rnF rn) L).ι b = L.ι b' := by simp only [leLay, hb]
            have e2 : (leLay (rnF rn) L).hd b = L.hd b' := by simp only [leLay, hb]
            exact ⟨xs, by rw [e2]; exact c1, c2, c3, by rw [e, e2]; exact c4, by rw [e, e2]; exact c5⟩
  · have h1 := hget b x hx
    have key : ∀ b' y, rnF rn b = some b' → lk σ.bx b' = some y → blk L b' y → w0.heap.size ≤ (leLay (rnF rn) L).ι b ∧ (leLay (rnF rn) L).ι b < w.heap.size := by
      intro b' y hb hy hk
      have e : (leLay (rnF rn) L).ι b = L.ι b' := by simp only [leLay, hb]
      rw [e]
      exact hI.lo b' y hy hk
    obtain ⟨b', y, g1, g2, g3⟩ := le_blk h1 hk
    exact key b' y g1 g2 g3
  · obtain ⟨c, y, g1, g2, g3⟩ := le_blk (hget b x hx) hk
    obtain ⟨c', y', k1, k2, k3⟩ := le_blk (hget b' x' hx') hk'
    have e : (leLay (rnF rn) L).ι b = L.ι c := by simp only [leLay, g1]
    have e' : (leLay (rnF rn) L).ι b' = L.ι c' := by simp only [leLay, k1]
    have hcc := hI.inj c c' y y' g2 k2 g3 k3 (by rw [← e, ← e', he])
    subst hcc
    exact (okRn_spec ok3).2 b b' c (by rw [hx]; simp) (by rw [hx']; simp) g1 k1
  · unfold St.get at hm
    cases ht : lk τ.T t with
    | none => rw [ht] at hm; cases hm
    | some v => rw [ht] at hm; exact okIn_men (okAll_get ok1 t v ht) hm
  · exact bx_okIn_men (okAllB_get ok2 b x hx) hm
where
  le_blk {rn : List (Nat × Option Nat)} {L : Lay} {σ : St} {b : Nat} {x : Bx} (h1 : leX (rnF rn) (match rnF rn b with | some b' => lk σ.bx b' | none => none) b x) (hk : blk (leLay (rnF rn) L) b x) :
      ∃ b' y, rnF rn b = some b' ∧ lk σ.bx b' = some y ∧ blk L b' y := by
    cases x with
    | var cs fz =>
      obtain ⟨hn, h1⟩ := h1
      cases hb : rnF rn b with
      | none => exact absurd hb hn
      | some b' =>
        rw [hb] at h1
        simp only at h1
        cases hy : lk σ.bx b' with
        | none => rw [hy] at h1; cases h1
        | some y =>
          rw [hy] at h1
          cases y with
          | row => cases h1
          | var cs' fz' => exact ⟨b', _, rfl, hy, trivial⟩
    | row et sz es fz =>
      simp only [leX] at h1
      cases hb : rnF rn b with
      | none => exact absurd (by simp only [leLay, hb]) hk
      | some b' =>
        rw [hb] at h1
        simp only at h1
        cases hy : lk σ.bx b' with
        | none => rw [hy] at h1; cases h1
        | some y =>
          rw [hy] at h1
          cases y with
          | var => cases h1
          | row et' sz' es' fz' =>
            refine ⟨b', _, rfl, hy, ?_⟩
            have e2 : (leLay (rnF rn) L).hd b = L.hd b' := by simp only [leLay, hb]
            intro h
            exact hk (by rw [e2, h])

def Ex.to : Ex → Exit
  | .normal => .normal
  | .exit i => .exit i
  | .ret => .ret

theorem loop_sound {c : Code} {ι : Type} {I : ι → Act → World → Prop} {μ : ι → Nat} {Q : Exit → Act → World → Prop}
    (round : ∀ i a w, I i a w → c.wp P (Exit.then (fun a' w' => ∃ i', I i' a' w' ∧ μ i' < μ i) Q) a w) {i : ι} {a : Act} {w : World} (h0 : I i a w) : (Code.loop c).wp P Q a w := by
  intro b k cs
  have key : ∀ n i a w, μ i = n → I i a w → ∃ e a' w', Q e a' w' ∧ Arrives P (lone (b.at a (.code c :: .inLoop c :: k)) cs w) b k cs e a' w' := by
    intro n
    induction n using Nat.strongRecOn with
    | _ n ih =>
      intro i a w hn hI
      obtain ⟨e, a1, w1, hq, harr⟩ := round i a w hI b (.inLoop c :: k) cs
      cases e with
      | normal =>
        obtain ⟨i', hI1, hlt⟩ := hq
        obtain ⟨e2, a2, w2, hq2, harr2⟩ := ih (μ i') (hn ▸ hlt) i' a1 w1 rfl hI1
        exact ⟨e2, a2, w2, hq2, .of_steps (Steps.trans harr (.one step_inLoop)) harr2⟩
      | exit id => exact ⟨_, a1, w1, hq, .pass (x := .inLoop c) rfl (fun _ _ => .inl (by simp)) harr⟩
      | goto l => exact ⟨_, a1, w1, hq, .pass (x := .inLoop c) rfl (fun _ _ => .inl (by simp)) harr⟩
      | ret => exact ⟨_, a1, w1, hq, .pass (x := .inLoop c) rfl (fun _ _ => .inl (by simp)) harr⟩
      | panic ch => exact ⟨_, a1, w1, hq, .pass (x := .inLoop c) rfl (fun _ _ => .inl (by simp)) harr⟩
      | outgrown => exact ⟨_, a1, w1, hq, .pass (x := .inLoop c) rfl (fun _ _ => .inl (by simp)) harr⟩
  obtain ⟨e, a', w', hq, harr⟩ := key _ i a w rfl h0
  exact ⟨e, a', w', hq, .of_steps (.one step_loop) harr⟩

theorem awp_sound (hS : TysOk P S) (hm : P.follows .mixedOrders = true) : ∀ (c : Code) {K : Ex → St → Prop} {σ : St} {a : Act} {w : World} {Q : Exit → Act → World → Prop},
    awp P S N c K σ → Rel w0 A0 N σ a w → (∀ e σ' a' w', Rel w0 A0 N σ' a' w' → K e σ' → Q e.to a' w') → c.wp P Q a w := by
  intro c
  induction c with
  | skip => intro K σ a w Q h hr hK; exact wp_skip (hK .normal σ a w hr h)
  | region id ops draw =>
    intro K σ a w Q h hr hK
    cases draw with
    | false =>
      refine wp_region ?_
      have := steps_sound (Q := Q) hS ops.toList 0 [] rfl rfl h hr fun σ' a' w' hr' hk => hK .normal σ' a' w' hr' hk
      rw [Array.length_toList] at this
      rw [List.range_eq_range']
      exact this
    | true => exact regD_sound hS hm h hr fun σ' a' w' hr' hk => hK .normal σ' a' w' hr' hk
  | seq x y ihx ihy =>
    intro K σ a w Q h hr hK
    refine wp_seq (ihx h hr fun e σ' a' w' hr' hk => ?_)
    cases e with
    | normal => exact ihy hk hr' hK
    | exit i => exact hK (.exit i) σ' a' w' hr' hk
    | ret => exact hK .ret σ' a' w' hr' hk
  | cond c x y ihx ihy =>
    intro K σ a w Q h hr hK
    rw [awp_cond] at h
    split at h
    · rename_i t ht
      have hev : a.eval c = .bool t := by
        obtain ⟨L, A, hI⟩ := hr
        have := ev_rv hI c
        rw [show evA σ.get c = .d (.bool t) from ht] at this
        exact rv_bool this
      exact wp_cond_split hev (fun e => ihx (h.yes e) hr hK) (fun e => ihy (h.no e) hr hK)
    · cases h
  | block id c ih =>
    intro K σ a w Q h hr hK
    refine wp_block (ih h hr fun e σ' a' w' hr' hk => ?_)
    cases e with
    | normal => exact hK .normal σ' a' w' hr' hk
    | ret => exact hK .ret σ' a' w' hr' hk
    | exit i =>
      simp only [Ex.to, Exit.inBlock]
      simp only at hk
      cases e : Nat.beq i id with
      | true =>
        rw [e] at hk
        rw [if_pos (Nat.eq_of_beq_eq_true e)]
        exact hK .normal σ' a' w' hr' hk
      | false =>
        rw [e] at hk
        rw [if_neg (beq_false_ne e)]
        exact hK (.exit i) σ' a' w' hr' hk
  | exit i => intro K σ a w Q h hr hK; exact wp_exit (hK (.exit i) σ a w hr h)
  | ret => intro K σ a w Q h hr hK; exact wp_ret (hK .ret σ a w hr h)
  | loop c ih =>
    intro K σ a w Q h hr hK
    have h : LoopK (fun K' σ' => awp P S N c K' σ') K σ (dstM c) := (forceN_eq (dstM c) _).mp h
    cases h with
    | mk I Sk μ i0 rn0 hi0 h0 round =>
      refine loop_sound (I := fun i a w => I i ∧ Rel w0 A0 N (Sk i) a w) (μ := μ) (fun i a w hi => ih (round i hi.1) hi.2 fun e σ' a' w' hr' hk => ?_) ⟨hi0, le_sound h0 hr⟩
      cases e with
      | normal =>
        cases hk with
        | mk i' rn hi hm hl => exact ⟨i', ⟨hi, le_sound hl hr'⟩, hm⟩
      | exit i => exact hK (.exit i) σ' a' w' hr' hk
      | ret => exact hK .ret σ' a' w' hr' hk
  | _ => intro K σ a w Q h; cases h
end
end Go.Vm
