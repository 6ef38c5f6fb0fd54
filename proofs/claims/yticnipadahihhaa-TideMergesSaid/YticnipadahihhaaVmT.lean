/- Bodies: what the evaluator says holds of every run. -/
import Derived.Test.YticnipadahihhaaVmS
namespace Go.Vm
open Go.RowKit (Below)
section
variable {P : Program} {S : Tys} {N : Nat} {w0 : Ent} {A0 : Sta}

/-! Forgetting. -/
theorem leT_get {f : Nat → Option Nat} {σ : St} : ∀ {l : List (Nat × AV)}, leT f σ l → ∀ t v, lk l t = some v → leA3 f (σ.get t) v
  | [], _, t, v, h => by cases h
  | (i, u) :: r, hl, t, v, h => by
    rw [lk_cons] at h
    split at h
    · rename_i e; subst e; cases h; exact hl.1
    · exact leT_get hl.2 t v h
theorem leB_get {f : Nat → Option Nat} {σ : St} : ∀ {l : List (Nat × Bx)}, leB f σ l → ∀ b x, lk l b = some x → leX f (match f b with | some b' => lk σ.bx b' | none => none) b x
  | [], _, t, v, h => by cases h
  | (i, u) :: r, hl, t, v, h => by
    rw [lk_cons] at h
    split at h
    · rename_i e; subst e; cases h; exact hl.1
    · exact leB_get hl.2 t v h
theorem okAll_get {bx : List (Nat × Bx)} : ∀ {l : List (Nat × AV)}, okAll bx l = true → ∀ t v, lk l t = some v → v.okIn bx = true
  | [], _, t, v, h => by cases h
  | (i, u) :: r, hl, t, v, h => by
    simp only [okAll] at hl
    split at hl
    · rename_i hu
      rw [lk_cons] at h
      split at h
      · cases h; exact hu
      · exact okAll_get hl t v h
    · cases hl
theorem okAllB_get {bx : List (Nat × Bx)} : ∀ {l : List (Nat × Bx)}, okAllB bx l = true → ∀ t v, lk l t = some v → v.okIn bx = true
  | [], _, t, v, h => by cases h
  | (i, u) :: r, hl, t, v, h => by
    simp only [okAllB] at hl
    split at hl
    · rename_i hu
      rw [lk_cons] at h
      split at h
      · cases h; exact hu
      · exact okAllB_get hl t v h
    · cases hl
theorem okRn_spec {rn : List (Nat × Option Nat)} : ∀ {l : List (Nat × Bx)} {seen : List Nat}, okRn rn l seen = true →
    (∀ b c, lk l b ≠ none → rnF rn b = some c → c ∉ seen) ∧ (∀ b b' c, lk l b ≠ none → lk l b' ≠ none → rnF rn b = some c → rnF rn b' = some c → b = b')
  | [], seen, _ => ⟨fun b c h => absurd rfl h, fun b b' c h => absurd rfl h⟩
  | (k, x) :: r, seen, h => by
    simp only [okRn] at h
    cases hk : rnF rn k with
    | none =>
      rw [hk] at h
      obtain ⟨h1, h2⟩ := okRn_spec h
      have ne : ∀ b c, rnF rn b = some c → lk ((k, x) :: r) b ≠ none → lk r b ≠ none := by
        intro b c hb hn
        rw [lk_cons] at hn
        split at hn
        · rename_i e; subst e; rw [hk] at hb; cases hb
        · exact hn
      exact ⟨fun b c hb hc => h1 b c (ne b c hc hb) hc, fun b b' c hb hb' hc hc' => h2 b b' c (ne b c hc hb) (ne b' c hc' hb') hc hc'⟩
    | some c0 =>
      rw [hk] at h
      simp only at h
      split at h
      · cases h
      · rename_i hs
        obtain ⟨h1, h2⟩ := okRn_spec h
        have hs' : c0 ∉ seen := by
          intro hc
          rw [List.contains_iff_mem.2 hc] at hs
          cases hs
        have split1 : ∀ b, lk ((k, x) :: r) b ≠ none → b = k ∨ lk r b ≠ none := by
          intro b hb
          rw [lk_cons] at hb
          split at hb
          · rename_i e; exact .inl e
          · exact .inr hb
        refine ⟨fun b c hb hc => ?_, fun b b' c hb hb' hc hc' => ?_⟩
        · rcases split1 b hb with rfl | hb
          · rw [hk] at hc; cases hc; exact hs'
          · intro hm; exact h1 b c hb hc (List.mem_cons_of_mem _ hm)
        · rcases split1 b hb with e | hb
          · rcases split1 b' hb' with e' | hb'
            · rw [e, e']
            · rw [e, hk] at hc; cases hc
              exact absurd List.mem_cons_self (h1 b' c0 hb' hc')
          · rcases split1 b' hb' with e' | hb'
            · rw [e', hk] at hc'; cases hc'
              exact absurd List.mem_cons_self (h1 b c0 hb hc)
            · exact h2 b b' c hb hb' hc hc'

def verOf (bx : List (Nat × Bx)) (b : Nat) : Nat := match lk bx b with
  | some (.mat _ _ v _) => v
  | _ => 0
def leLay (f : Nat → Option Nat) (L : Lay) (bx : List (Nat × Bx)) : Lay where
  ι b := match f b with
    | some b' => L.ι b'
    | none => 0
  hd b := match f b with
    | some b' => L.hd b'
    | none => .slice none 0 0
  sub b v i := if pinned b = true then L.sub b v i else match f b with
    | some b' => L.sub b' (L.top b') i
    | none => undef
  top b := if pinned b = true then L.top b else verOf bx b
section
variable {f : Nat → Option Nat} {L : Lay} {bx : List (Nat × Bx)}
theorem leLay_ι {b b' : Nat} (h : f b = some b') : (leLay f L bx).ι b = L.ι b' := by simp only [leLay, h]
theorem leLay_hd {b b' : Nat} (h : f b = some b') : (leLay f L bx).hd b = L.hd b' := by simp only [leLay, h]
theorem leLay_hd0 {b : Nat} (h : f b = none) : (leLay f L bx).hd b = .slice none 0 0 := by simp only [leLay, h]
theorem leC_get : ∀ {us vs : List Cap}, leC f us vs → us.length = vs.length ∧ ∀ (j : Nat) u v, us[j]? = some u → vs[j]? = some v → (match v with
    | .box b => match f b with
      | some b' => u = .box b'
      | none => False
    | .dat x => u = .dat x)
  | [], [], _ => ⟨rfl, fun j u v h => by simp at h⟩
  | [], _ :: _, h => by cases h
  | _ :: _, [], h => by cases h
  | u :: us, v :: vs, h => by
    obtain ⟨h1, h2⟩ := leC_get h.2
    refine ⟨by simp [h1], fun j a b ha hb => ?_⟩
    cases j with
    | zero => simp only [List.getElem?_cons_zero, Option.some.injEq] at ha hb; subst ha; subst hb; exact h.1
    | succ j => exact h2 j a b (by simpa using ha) (by simpa using hb)
theorem leA_rv {w : World} {A : Sta} {u v : AV} {x : Value} (h : leA f u v) (hr : RV L w A u x) : RV (leLay f L bx) w A v x := by
  cases v with
  | d c => rw [show u = .d c from h] at hr; cases hr with | d hr => exact .d hr
  | ptr b off =>
    simp only [leA] at h
    split at h
    · rename_i b' hb
      subst h
      cases hr
      rw [← leLay_ι (L := L) (bx := bx) hb]
      exact .ptr _ _
    · cases h
  | eptr b sz i off =>
    simp only [leA] at h
    split at h
    · rename_i b' hb
      subst h
      cases hr
      rw [← leLay_ι (L := L) (bx := bx) hb]
      exact .eptr _ _ _ _
    · cases h
  | sptr b sz i j =>
    simp only [leA] at h
    split at h
    · rename_i b' hb
      subst h
      cases hr
      rw [← leLay_ι (L := L) (bx := bx) hb]
      exact .sptr _ _ _ _
    · cases h
  | mp b =>
    simp only [leA] at h
    split at h
    · rename_i b' hb
      subst h
      cases hr
      rw [← leLay_ι (L := L) (bx := bx) hb]
      exact .mp _
    · cases h
  | own b sz n =>
    simp only [leA] at h
    split at h
    · rename_i b' hb
      subst h
      cases hr with
      | own _ _ _ h1 =>
        rw [← leLay_hd (L := L) (bx := bx) hb] at h1 ⊢
        exact .own _ _ _ h1
    · rename_i hb
      obtain ⟨⟨s, rfl⟩, rfl⟩ := h
      cases hr
      rw [← leLay_hd0 (L := L) (bx := bx) hb]
      exact .own _ _ _ (by rw [leLay_hd0 hb]; rfl)
  | fnv g cs =>
    simp only [leA] at h
    split at h
    · rename_i g' cs'
      obtain ⟨rfl, hc⟩ := h
      cases hr with
      | @fnv _ _ vs hl hr =>
        obtain ⟨l1, l2⟩ := leC_get hc
        refine .fnv (by rw [← l1]; exact hl) fun j c v hcj hv => ?_
        have hj : j < cs'.length := by rw [l1]; exact lt_of_get hcj
        have h1 := l2 j cs'[j] c (List.getElem?_eq_getElem hj) hcj
        have h2 := hr j cs'[j] v (List.getElem?_eq_getElem hj) hv
        cases c with
        | box b =>
          simp only at h1
          split at h1
          · rename_i b' hb
            rw [h1] at h2
            simp only [CapV] at h2 ⊢
            rw [leLay_ι hb]
            exact h2
          · cases h1
        | dat x =>
          simp only at h1
          rw [h1] at h2
          exact h2
    · cases h
  | view b sz lo hi =>
    simp only [leA] at h
    split at h
    · rename_i b' hb
      rw [h] at hr
      cases hr with
      | view _ _ _ _ g n C hg h2 => exact .view b sz lo hi g n C (by rw [leLay_hd hb]; exact hg) h2
    · cases h
  | nil sz => rw [show u = .nil sz from h] at hr; cases hr; exact .nil _
  | junk => exact .junk _
  | agg => cases h
  | tup => cases h
  | sub b v i =>
    obtain ⟨hp, rfl⟩ := h
    cases hr with
    | sub _ _ _ h1 hv =>
      have e : (leLay f L bx).sub b v i = L.sub b v i := by simp only [leLay, hp, if_true]
      rw [← e] at h1 ⊢
      exact .sub _ _ _ h1 (by simp only [leLay, hp, if_true]; exact hv)
  | mptr => cases h
  | undef => cases h
theorem leL_get : ∀ {us vs : List AV}, leL f us vs → us.length = vs.length ∧ ∀ (j : Nat) u v, us[j]? = some u → vs[j]? = some v → leA f u v
  | [], [], _ => ⟨rfl, fun j u v h => by simp at h⟩
  | [], _ :: _, h => by cases h
  | _ :: _, [], h => by cases h
  | u :: us, v :: vs, h => by
    obtain ⟨h1, h2⟩ := leL_get h.2
    refine ⟨by simp [h1], fun j a b ha hb => ?_⟩
    cases j with
    | zero => simp only [List.getElem?_cons_zero, Option.some.injEq] at ha hb; subst ha; subst hb; exact h.1
    | succ j => exact h2 j a b (by simpa using ha) (by simpa using hb)
theorem leT2_get : ∀ {us vs : List AV}, leT2 f us vs → us.length = vs.length ∧ ∀ (j : Nat) u v, us[j]? = some u → vs[j]? = some v → leA2 f u v
  | [], [], _ => ⟨rfl, fun j u v h => by simp at h⟩
  | [], _ :: _, h => by cases h
  | _ :: _, [], h => by cases h
  | u :: us, v :: vs, h => by
    obtain ⟨h1, h2⟩ := leT2_get h.2
    refine ⟨by simp [h1], fun j a b ha hb => ?_⟩
    cases j with
    | zero => simp only [List.getElem?_cons_zero, Option.some.injEq] at ha hb; subst ha; subst hb; exact h.1
    | succ j => exact h2 j a b (by simpa using ha) (by simpa using hb)
theorem leA_one {u v : AV} (h : leA f u v) (hu : u.one = true) (hv : v ≠ .junk) : v.one = true := by
  cases v with
  | d c => rw [show u = .d c from h] at hu; exact hu
  | junk => exact absurd rfl hv
  | agg => cases h
  | tup => cases h
  | undef => cases h
  | _ => rfl
theorem leA2_rv {w : World} {A : Sta} {u v : AV} {x : Value} (h : leA2 f u v) (hr : RV L w A u x) : RV (leLay f L bx) w A v x := by
  cases v with
  | agg vs =>
    simp only [leA2] at h
    split at h
    · rename_i us
      cases hr with
      | @agg _ xs hl h1 hr =>
        obtain ⟨l1, l2⟩ := leL_get h.1
        refine .agg (by rw [← l1]; exact hl) (fun c hc => ?_) fun j c v hcj hv => ?_
        · obtain ⟨j, hj⟩ := List.getElem?_of_mem hc
          have hlt : j < us.length := by rw [l1]; exact lt_of_get hj
          have := l2 j us[j] c (List.getElem?_eq_getElem hlt) hj
          refine leA_one this (h1 _ (List.getElem_mem hlt)) ?_
          have := List.all_eq_true.1 h.2 c hc
          intro e
          rw [e] at this
          cases this
        · have hlt : j < us.length := by rw [l1]; exact lt_of_get hcj
          exact leA_rv (l2 j us[j] c (List.getElem?_eq_getElem hlt) hcj) (hr j us[j] v (List.getElem?_eq_getElem hlt) hv)
    · cases h
  | _ => exact leA_rv h hr
theorem leA3_rv {w : World} {A : Sta} {u v : AV} {x : Value} (h : leA3 f u v) (hr : RV L w A u x) : RV (leLay f L bx) w A v x := by
  cases v with
  | tup vs =>
    simp only [leA3] at h
    split at h
    · rename_i us
      cases hr with
      | @tup _ xs hl hr =>
        obtain ⟨l1, l2⟩ := leT2_get h
        refine .tup (by rw [← l1]; exact hl) fun j c v hcj hv => ?_
        have hlt : j < us.length := by rw [l1]; exact lt_of_get hcj
        exact leA2_rv (l2 j us[j] c (List.getElem?_eq_getElem hlt) hcj) (hr j us[j] v (List.getElem?_eq_getElem hlt) hv)
    · cases h
  | _ => exact leA2_rv h hr
end

theorem rnF_big : ∀ {rn : List (Nat × Option Nat)} {b : Nat}, okKeys rn = true → pinned b = true → rnF rn b = some b
  | [], _, _, _ => rfl
  | (k, v) :: r, b, h, hb => by
    simp only [okKeys] at h
    split at h
    · rename_i hk
      have e : Nat.beq k b = false := by
        cases e : Nat.beq k b with
        | false => rfl
        | true => have := Nat.eq_of_beq_eq_true e; rw [this, hb] at hk; cases hk
      have ih := rnF_big (rn := r) h hb
      unfold rnF at ih ⊢
      simp only [lk, e]
      exact ih
    · cases h

theorem le_sound {σ τ : St} {rn : List (Nat × Option Nat)} {a : Act} {w : World} (h : Le σ τ rn) (hr : Rel w0 A0 N σ a w) : Rel w0 A0 N τ a w := by
  obtain ⟨L, A, hI⟩ := hr
  obtain ⟨hT, hB, hok⟩ := h
  rw [Bool.and_eq_true, Bool.and_eq_true, Bool.and_eq_true] at hok
  obtain ⟨⟨⟨ok1, ok2⟩, ok3⟩, ok4⟩ := hok
  have hget : ∀ b x, lk τ.bx b = some x → leX (rnF rn) (match rnF rn b with | some b' => lk σ.bx b' | none => none) b x := leB_get hB
  -- each box stands for one that was there, or is a slice that is still nil
  have key : ∀ b x, lk τ.bx b = some x → BR w0.B0 (leLay (rnF rn) L τ.bx) w A b x ∧ ∀ g, own (leLay (rnF rn) L τ.bx) b x g → ∃ b' y, rnF rn b = some b' ∧ lk σ.bx b' = some y ∧ own L b' y g := by
    intro b x hx
    have h1 := hget b x hx
    cases x with
    | var cs fz =>
      obtain ⟨hn, h1⟩ := h1
      cases hb : rnF rn b with
      | none => exact absurd hb hn
      | some b' =>
        rw [hb] at h1
        simp only at h1
        cases hy : lk σ.bx b' with
        | none => rw [hy] at h1; cases h1
        | some y =>
          rw [hy] at h1
          cases y with
          | row => cases h1
          | arr => cases h1
          | mat => cases h1
          | map => cases h1
          | iter => cases h1
          | gone => cases h1
          | var cs' fz' =>
            obtain ⟨hl, hf⟩ := h1
            obtain ⟨l1, l2⟩ := leL_get hl
            obtain ⟨C, t, c1, c2, c3, c4⟩ := hI.bxs b' _ hy
            have e : (leLay (rnF rn) L τ.bx).ι b = L.ι b' := leLay_ι hb
            refine ⟨⟨C, t, by rw [e]; exact c1, by rw [c2, l1], fun j c v hc hv => ?_, fun hz => ?_⟩, fun g hg => ⟨b', _, rfl, hy, by rw [show g = _ from hg]; exact e⟩⟩
            · have hj : j < cs'.length := by rw [l1]; exact lt_of_get hc
              exact leA_rv (l2 j cs'[j] c (List.getElem?_eq_getElem hj) hc) (c3 j _ v (List.getElem?_eq_getElem hj) hv)
            · rw [e]
              refine c4 ?_
              cases fz' with
              | false => rfl
              | true => rw [hf rfl] at hz; cases hz
    | arr es fz =>
      obtain ⟨hn, h1⟩ := h1
      cases hb : rnF rn b with
      | none => exact absurd hb hn
      | some b' =>
        rw [hb] at h1
        simp only at h1
        cases hy : lk σ.bx b' with
        | none => rw [hy] at h1; cases h1
        | some y =>
          rw [hy] at h1
          cases y with
          | row => cases h1
          | var => cases h1
          | mat => cases h1
          | map => cases h1
          | iter => cases h1
          | gone => cases h1
          | arr es' fz' =>
            obtain ⟨rfl, hf⟩ := h1
            obtain ⟨C, t, c1, c2, c3, c4, c5⟩ := hI.bxs b' _ hy
            have e : (leLay (rnF rn) L τ.bx).ι b = L.ι b' := leLay_ι hb
            refine ⟨⟨C, t, by rw [e]; exact c1, c2, c3, c4, fun hz => ?_⟩, fun g hg => ⟨b', _, rfl, hy, by rw [show g = _ from hg]; exact e⟩⟩
            rw [e]
            refine c5 ?_
            cases fz' with
            | false => rfl
            | true => rw [hf rfl] at hz; cases hz
    | row et sz es fz =>
      simp only [leX] at h1
      cases hb : rnF rn b with
      | none =>
        rw [hb] at h1
        simp only at h1
        subst h1
        have e : (leLay (rnF rn) L τ.bx).hd b = .slice none 0 0 := leLay_hd0 hb
        refine ⟨⟨[], by rw [e]; exact ⟨by simp, .inl ⟨rfl, rfl⟩⟩, fun i e h => by simp at h, fun i e j c v h => by simp at h, fun g hg => ?_, fun hn => absurd e hn⟩, fun g hg => ?_⟩
        · rw [e] at hg; cases hg
        · have hg' : ((leLay (rnF rn) L τ.bx).hd b).ownBlock = some g := hg
          rw [e] at hg'; cases hg'
      | some b' =>
        rw [hb] at h1
        simp only at h1
        cases hy : lk σ.bx b' with
        | none => rw [hy] at h1; cases h1
        | some y =>
          rw [hy] at h1
          cases y with
          | var => cases h1
          | arr => cases h1
          | mat => cases h1
          | map => cases h1
          | iter => cases h1
          | gone => cases h1
          | row et' sz' es' fz' =>
            obtain ⟨rfl, rfl, rfl, hf⟩ := h1
            obtain ⟨xs, c1, c2, c3, c4, c5⟩ := hI.bxs b' _ hy
            have e : (leLay (rnF rn) L τ.bx).ι b = L.ι b' := leLay_ι hb
            have e2 : (leLay (rnF rn) L τ.bx).hd b = L.hd b' := leLay_hd hb
            refine ⟨⟨xs, by rw [e2]; exact c1, c2, c3, by rw [e, e2]; exact c4, by rw [e, e2]; exact fun hn o ho => ⟨hf (c5 hn o ho).1, (c5 hn o ho).2⟩⟩, fun g hg => ⟨b', _, rfl, hy, ?_⟩⟩
            have hg' : ((leLay (rnF rn) L τ.bx).hd b).ownBlock = some g := hg
            rw [e2] at hg'
            exact hg'
    | map kt et kd es =>
      obtain ⟨hn, h1⟩ := h1
      cases hb : rnF rn b with
      | none => exact absurd hb hn
      | some b' =>
        rw [hb] at h1
        simp only at h1
        cases hy : lk σ.bx b' with
        | none => rw [hy] at h1; cases h1
        | some y =>
          rw [hy] at h1
          cases y with
          | row => cases h1
          | var => cases h1
          | mat => cases h1
          | arr => cases h1
          | iter => cases h1
          | gone => cases h1
          | map kt' et' kd' es' =>
            obtain ⟨rfl, rfl, rfl, rfl⟩ := h1
            obtain ⟨E, c, c1, c2, c3, c4⟩ := hI.bxs b' _ hy
            have e : (leLay (rnF rn) L τ.bx).ι b = L.ι b' := leLay_ι hb
            exact ⟨⟨E, c, by rw [e]; exact c1, c2, c3, by rw [e]; exact c4⟩, fun g hg => ⟨b', _, rfl, hy, by rw [show g = _ from hg]; exact e⟩⟩
    | iter m n seen =>
      obtain ⟨hn, h1⟩ := h1
      cases hb : rnF rn b with
      | none => exact absurd hb hn
      | some b' =>
        rw [hb] at h1
        simp only at h1
        cases hy : lk σ.bx b' with
        | none => rw [hy] at h1; cases h1
        | some y =>
          rw [hy] at h1
          cases y with
          | row => cases h1
          | var => cases h1
          | mat => cases h1
          | arr => cases h1
          | map => cases h1
          | gone => cases h1
          | iter m' n' seen' =>
            obtain ⟨rfl, rfl, h1⟩ := h1
            obtain ⟨⟨g0, c1, c2⟩, c3⟩ := hI.bxs b' _ hy
            have e : (leLay (rnF rn) L τ.bx).ι b = L.ι b' := leLay_ι hb
            refine ⟨⟨⟨g0, by rw [e]; exact c1, fun d hd => ?_⟩, by rw [e]; exact c3⟩, fun g hg => ⟨b', _, rfl, hy, by rw [show g = _ from hg]; exact e⟩⟩
            subst hd
            simp only at h1
            split at h1
            · rename_i c' hc'
              rw [leLay_ι hc']; exact c2 c' h1
            · cases h1
    | gone => exact ⟨trivial, fun g hg => hg.elim⟩
    | mat et ie v rows =>
      simp only [leX] at h1
      cases hb : rnF rn b with
      | none =>
        rw [hb] at h1
        simp only at h1
        subst h1
        have hp : ¬ pinned b = true := fun hp => by rw [rnF_big ok4 hp] at hb; cases hb
        have e : (leLay (rnF rn) L τ.bx).hd b = .slice none 0 0 := leLay_hd0 hb
        have ht : (leLay (rnF rn) L τ.bx).top b = v := by
          show (if pinned b = true then L.top b else verOf τ.bx b) = v
          rw [if_neg hp]
          simp only [verOf, hx]
        refine ⟨⟨[], by rw [e]; exact ⟨by simp, .inl ⟨rfl, rfl⟩⟩, fun g hg => ?_, ht.symm, fun i es h => by simp at h, fun i j es es' g h => by simp at h, fun i es g h => by simp at h, fun g hg => ?_⟩, fun g hg => ?_⟩
        · rw [e] at hg; cases hg
        · rcases hg with hg | ⟨i, es, h, _⟩
          · rw [e] at hg; cases hg
          · simp at h
        · rcases hg with hg | ⟨i, es, h, _⟩
          · rw [e] at hg; cases hg
          · simp at h
      | some b' =>
        rw [hb] at h1
        simp only at h1
        cases hy : lk σ.bx b' with
        | none => rw [hy] at h1; cases h1
        | some y =>
          rw [hy] at h1
          cases y with
          | var => cases h1
          | arr => cases h1
          | row => cases h1
          | map => cases h1
          | iter => cases h1
          | gone => cases h1
          | mat et' ie' v' rows' =>
            obtain ⟨rfl, rfl, rfl, hv⟩ := h1
            obtain ⟨xs, c1, c2, c3, c4, c5, c6, c7⟩ := hI.bxs b' _ hy
            have e : (leLay (rnF rn) L τ.bx).ι b = L.ι b' := leLay_ι hb
            have e2 : (leLay (rnF rn) L τ.bx).hd b = L.hd b' := leLay_hd hb
            have hpb : pinned b = true → b' = b := fun hp => by rw [rnF_big ok4 hp] at hb; exact (Option.some.inj hb).symm
            have ht : v = (leLay (rnF rn) L τ.bx).top b := by
              show v = (if pinned b = true then L.top b else verOf τ.bx b)
              split
              · rename_i hp
                rw [← hv hp, c3, hpb hp]
              · simp only [verOf, hx]
            have hs : ∀ i, (leLay (rnF rn) L τ.bx).sub b v i = L.sub b' v' i := by
              intro i
              show (if pinned b = true then L.sub b v i else match rnF rn b with
                | some b' => L.sub b' (L.top b') i
                | none => undef) = _
              split
              · rename_i hp
                rw [hv hp, hpb hp]
              · simp only [hb, c3]
            have ho : ∀ g, own (leLay (rnF rn) L τ.bx) b (.mat et' ie' v rows') g → own L b' (.mat et' ie' v' rows') g := by
              rintro g (hg | ⟨i, es, h, hg⟩)
              · rw [e2] at hg; exact .inl hg
              · rw [hs] at hg; exact .inr ⟨i, es, h, hg⟩
            exact ⟨⟨xs, by rw [e2]; exact c1, by rw [e, e2]; exact c2, ht, fun i es hi => by rw [hs]; exact c4 i es hi, fun i j es es' g h h' hg hg' => by rw [hs] at hg hg'; exact c5 i j es es' g h h' hg hg',
              fun i es g h hg => by rw [hs] at hg; rw [e2]; exact c6 i es g h hg, fun g hg => c7 g (ho g hg)⟩, fun g hg => ⟨b', _, rfl, hy, ho g hg⟩⟩
  refine ⟨leLay (rnF rn) L τ.bx, A, { hI with pin := fun b hb hn => ?_, tm := fun t => ?_, bxs := fun b x hx => (key b x hx).1, lo := fun b x g hx hg => ?_, inj := fun b b' x x' g hx hx' hg hg' => ?_, clT := fun t b hm => ?_, clB := fun b x b' hx hm => ?_ }⟩
  · have e := rnF_big ok4 hb
    have hσ : lk σ.bx b ≠ none := by
      cases hx : lk τ.bx b with
      | none => exact absurd hx hn
      | some x =>
        have h1 := hget b x hx
        intro hs
        cases x with
        | var => simp only [leX, e, hs, and_false] at h1
        | arr => simp only [leX, e, hs, and_false] at h1
        | map => simp only [leX, e, hs, and_false] at h1
        | iter => simp only [leX, e, hs, and_false] at h1
        | gone => simp only [leX, e, hs, and_false] at h1
        | row => simp only [leX, e, hs] at h1
        | mat => simp only [leX, e, hs] at h1
    have hp := hI.pin b hb hσ
    refine ⟨(leLay_ι e).trans hp.ι, (leLay_hd e).trans hp.hd, ?_, fun v hv i => ?_⟩
    · show w0.L.top b ≤ (if pinned b = true then L.top b else verOf τ.bx b)
      rw [if_pos hb]
      exact hp.top
    · show (if pinned b = true then L.sub b v i else _) = _
      rw [if_pos hb]
      exact hp.sub v hv i
  · unfold St.get
    cases ht : lk τ.T t with
    | none => exact .junk _
    | some v => exact leA3_rv (leT_get hT t v ht) (hI.tm t)
  · obtain ⟨b', y, g1, g2, g3⟩ := (key b x hx).2 g hg
    exact hI.lo b' y g g2 g3
  · obtain ⟨c, y, g1, g2, g3⟩ := (key b x hx).2 g hg
    obtain ⟨c', y', k1, k2, k3⟩ := (key b' x' hx').2 g hg'
    have hcc := hI.inj c c' y y' g g2 k2 g3 k3
    subst hcc
    exact (okRn_spec ok3).2 b b' c (by rw [hx]; simp) (by rw [hx']; simp) g1 k1
  · unfold St.get at hm
    cases ht : lk τ.T t with
    | none => rw [ht] at hm; cases hm
    | some v => rw [ht] at hm; exact okIn_men (okAll_get ok1 t v ht) hm
  · exact bx_okIn_men (okAllB_get ok2 b x hx) hm

def Ex.to : Ex → Exit
  | .normal => .normal
  | .exit i => .exit i
  | .ret => .ret

theorem loop_sound {c : Code} {ι : Type} {I : ι → Act → World → Prop} {μ : ι → Nat} {Q : Exit → Act → World → Prop}
    (round : ∀ i a w, I i a w → c.wp P (Exit.then (fun a' w' => ∃ i', I i' a' w' ∧ μ i' < μ i) Q) a w) {i : ι} {a : Act} {w : World} (h0 : I i a w) : (Code.loop c).wp P Q a w := by
  intro b k cs
  have key : ∀ n i a w, μ i = n → I i a w → ∃ e a' w', Q e a' w' ∧ Arrives P (lone (b.at a (.code c :: .inLoop c :: k)) cs w) b k cs e a' w' := by
    intro n
    induction n using Nat.strongRecOn with
    | _ n ih =>
      intro i a w hn hI
      obtain ⟨e, a1, w1, hq, harr⟩ := round i a w hI b (.inLoop c :: k) cs
      cases e with
      | normal =>
        obtain ⟨i', hI1, hlt⟩ := hq
        obtain ⟨e2, a2, w2, hq2, harr2⟩ := ih (μ i') (hn ▸ hlt) i' a1 w1 rfl hI1
        exact ⟨e2, a2, w2, hq2, .of_steps (Steps.trans harr (.one step_inLoop)) harr2⟩
      | exit id => exact ⟨_, a1, w1, hq, .pass (x := .inLoop c) rfl (fun _ _ => .inl (by simp)) harr⟩
      | goto l => exact ⟨_, a1, w1, hq, .pass (x := .inLoop c) rfl (fun _ _ => .inl (by simp)) harr⟩
      | ret => exact ⟨_, a1, w1, hq, .pass (x := .inLoop c) rfl (fun _ _ => .inl (by simp)) harr⟩
      | panic ch => exact ⟨_, a1, w1, hq, .pass (x := .inLoop c) rfl (fun _ _ => .inl (by simp)) harr⟩
      | outgrown => exact ⟨_, a1, w1, hq, .pass (x := .inLoop c) rfl (fun _ _ => .inl (by simp)) harr⟩
  obtain ⟨e, a', w', hq, harr⟩ := key _ i a w rfl h0
  exact ⟨e, a', w', hq, .of_steps (.one step_loop) harr⟩

theorem awp_sound (hS : TysOk P S) (hm : P.follows .mixedOrders = true) : ∀ (c : Code) {K : Ex → St → Prop} {σ : St} {a : Act} {w : World} {Q : Exit → Act → World → Prop},
    awp P S N c K σ → Rel w0 A0 N σ a w → (∀ e σ' a' w', Rel w0 A0 N σ' a' w' → K e σ' → Q e.to a' w') → c.wp P Q a w := by
  intro c
  induction c with
  | skip => intro K σ a w Q h hr hK; exact wp_skip (hK .normal σ a w hr h)
  | region id ops draw =>
    intro K σ a w Q h hr hK
    cases draw with
    | false =>
      refine wp_region ?_
      have := steps_sound (Q := Q) hS ops.toList 0 [] rfl rfl h hr fun σ' a' w' hr' hk => hK .normal σ' a' w' hr' hk
      rw [Array.length_toList] at this
      rw [List.range_eq_range']
      exact this
    | true => exact regD_sound hS hm h hr fun σ' a' w' hr' hk => hK .normal σ' a' w' hr' hk
  | seq x y ihx ihy =>
    intro K σ a w Q h hr hK
    refine wp_seq (ihx h hr fun e σ' a' w' hr' hk => ?_)
    cases e with
    | normal => exact ihy hk hr' hK
    | exit i => exact hK (.exit i) σ' a' w' hr' hk
    | ret => exact hK .ret σ' a' w' hr' hk
  | cond c x y ihx ihy =>
    intro K σ a w Q h hr hK
    rw [awp_cond] at h
    split at h
    · rename_i t ht
      have hev : a.eval c = .bool t := by
        obtain ⟨L, A, hI⟩ := hr
        have := ev_rv hI c
        rw [show evA σ.get c = .d (.bool t) from ht] at this
        exact rv_bool this
      exact wp_cond_split hev (fun e => ihx (h.yes e) hr hK) (fun e => ihy (h.no e) hr hK)
    · cases h
  | block id c ih =>
    intro K σ a w Q h hr hK
    refine wp_block (ih h hr fun e σ' a' w' hr' hk => ?_)
    cases e with
    | normal => exact hK .normal σ' a' w' hr' hk
    | ret => exact hK .ret σ' a' w' hr' hk
    | exit i =>
      simp only [Ex.to, Exit.inBlock]
      simp only at hk
      cases e : Nat.beq i id with
      | true =>
        rw [e] at hk
        rw [if_pos (Nat.eq_of_beq_eq_true e)]
        exact hK .normal σ' a' w' hr' hk
      | false =>
        rw [e] at hk
        rw [if_neg (beq_false_ne e)]
        exact hK (.exit i) σ' a' w' hr' hk
  | exit i => intro K σ a w Q h hr hK; exact wp_exit (hK (.exit i) σ a w hr h)
  | ret => intro K σ a w Q h hr hK; exact wp_ret (hK .ret σ a w hr h)
  | loop c ih =>
    intro K σ a w Q h hr hK
    have h : LoopK (fun K' σ' => awp P S N c K' σ') K σ (dstM c) := (forceN_eq (dstM c) _).mp h
    cases h with
    | mk I Sk μ i0 rn0 hi0 h0 round =>
      refine loop_sound (I := fun i a w => I i ∧ Rel w0 A0 N (Sk i) a w) (μ := μ) (fun i a w hi => ih (round i hi.1) hi.2 fun e σ' a' w' hr' hk => ?_) ⟨hi0, le_sound h0 hr⟩
      cases e with
      | normal =>
        cases hk with
        | mk i' rn hi hm hl => exact ⟨i', ⟨hi, le_sound hl hr'⟩, hm⟩
      | exit i => exact hK (.exit i) σ' a' w' hr' hk
      | ret => exact hK .ret σ' a' w' hr' hk
    | unr n h =>
      refine loop_sound (I := fun n a w => ∃ σ, Rel w0 A0 N σ a w ∧ Unr (fun K' σ' => awp P S N c K' σ') K n σ) (μ := id) (fun n a w hi => ?_) ⟨σ, hr, h⟩
      obtain ⟨σ1, hr1, hu⟩ := hi
      cases n with
      | zero => exact hu.elim
      | succ n =>
        refine ih hu hr1 fun e σ' a' w' hr' hk => ?_
        cases e with
        | normal => exact ⟨n, ⟨σ', hr', hk⟩, Nat.lt_succ_self n⟩
        | exit i => exact hK (.exit i) σ' a' w' hr' hk
        | ret => exact hK .ret σ' a' w' hr' hk
  | _ => intro K σ a w Q h; cases h
end
end Go.Vm
