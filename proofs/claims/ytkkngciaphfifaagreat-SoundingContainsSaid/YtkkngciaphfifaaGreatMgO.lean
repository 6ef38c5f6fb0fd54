/- Texts TwN TwO TwP TwQ TwR TwS, joined. -/
import Derived.Test.YtkkngciaphfifaaGreatMgN
section
namespace Go.Proofs.Tryz
open Go Go.Vm
set_option maxRecDepth 20000
set_option maxHeartbeats 2000000
theorem le_up {n d : Int} (hd : 0 < d) : n / d ≤ upZ n d := by
  obtain ⟨h1, h2, -⟩ := floor_facts (n := n) hd
  exact Int.le_of_mul_le_mul_right (Int.le_trans h1 h2) hd
theorem ediv_ge {n d m : Int} (hd : 0 < d) (h : m * d ≤ n) : m ≤ n / d := (Int.le_ediv_iff_mul_le hd).2 h
theorem up_le {n d m : Int} (hd : 0 < d) (h : n ≤ m * d) : upZ n d ≤ m := by
  have := ediv_ge (n := -n) (m := -m) hd (by rw [Int.neg_mul]; omega)
  unfold upZ; omega
theorem up_mono {n n' d : Int} (hd : 0 < d) (h : n ≤ n') : upZ n d ≤ upZ n' d := by
  have := Int.ediv_le_ediv hd (a := -n') (b := -n) (by omega)
  unfold upZ; omega
theorem at_le {g : Ga} {t : Int} (h : Good g) : (atS g t).1 ≤ (atS g t).2.1 := by
  have hb := mean_bd (t := t) h
  have he := h.err
  have := le_up (n := (meanS g t).1) hb.1
  unfold atS
  split <;> dsimp only <;> omega
theorem mix_facts {lo lo' hi hi' p q : Int} (hp : 0 ≤ p) (hq : 0 ≤ q) (hd : 0 < p + q) (h1 : lo ≤ hi) (h2 : lo' ≤ hi') :
    min lo lo' ≤ (lo * p + lo' * q) / (p + q) ∧ upZ (hi * p + hi' * q) (p + q) ≤ max hi hi' ∧ (lo * p + lo' * q) / (p + q) ≤ upZ (hi * p + hi' * q) (p + q) := by
  have m1 : min lo lo' * p ≤ lo * p := Int.mul_le_mul_of_nonneg_right (by omega) hp
  have m2 : min lo lo' * q ≤ lo' * q := Int.mul_le_mul_of_nonneg_right (by omega) hq
  have m3 : hi * p ≤ max hi hi' * p := Int.mul_le_mul_of_nonneg_right (by omega) hp
  have m4 : hi' * q ≤ max hi hi' * q := Int.mul_le_mul_of_nonneg_right (by omega) hq
  have m5 : lo * p ≤ hi * p := Int.mul_le_mul_of_nonneg_right h1 hp
  have m6 : lo' * q ≤ hi' * q := Int.mul_le_mul_of_nonneg_right h2 hq
  refine ⟨ediv_ge hd (by rw [Int.mul_add]; omega), up_le hd (by rw [Int.mul_add]; omega), ?_⟩
  exact Int.le_trans (Int.ediv_le_ediv hd (by omega)) (le_up hd)
theorem lv_two {a b : Ga} {x t : Int} (h : GoodAll [a, b]) (h1 : a.x ≤ x) (h2 : x ≤ b.x) :
    (x = a.x ∧ lvS [a, b] x t = atS a t) ∨ (x = b.x ∧ lvS [a, b] x t = atS b t) ∨ (a.x < x ∧ x < b.x ∧ lvS [a, b] x t = mixS a b x t) := by
  have hab := ga_lt h (i := 0) (a := a) (b := b) rfl rfl
  unfold lvS
  rcases Int.lt_trichotomy a.x x with hc | hc | hc
  · have ep : posX [a, b] x = 1 := by
      refine posX_eq h.asc (by simp) (fun k m hk hm => ?_) (fun m hm => by cases hm; exact h2)
      obtain rfl : k = 0 := by omega
      cases hm; exact hc
    rw [ep]
    by_cases e : b.x = x
    · right; left; exact ⟨e.symm, by simp [lvF, e]⟩
    · right; right; exact ⟨hc, by omega, by simp [lvF, e]⟩
  · have ep : posX [a, b] x = 0 := posX_eq h.asc (by simp) (fun k m hk hm => by omega) (fun m hm => by cases hm; omega)
    rw [ep]
    left; exact ⟨hc.symm, by simp [lvF, hc]⟩
  · omega
end Go.Proofs.Tryz
end

section
namespace Go.Proofs.Tryz
open Go Go.Vm
set_option maxRecDepth 20000
set_option maxHeartbeats 2000000
def wD (w : Int × Int) : D := .agg [.int .i64 w.1, .int .i64 w.2]
structure Vw where
  gs : List Ga
  x : Int
  w : Int × Int
def vD (v : Vw) : D := .agg [.sl 4 (v.gs.map gD), .int .i64 v.x, .int .i64 v.w.1, .int .i64 v.w.2]
def badW (w : Int × Int) : Bool := decide (w.1 < 0) || (decide (w.2 < w.1) || (decide (w.2 > 1000000) || decide (w.2 - w.1 > 3000)))
def viewErr (l : List Ga) (x : Int) (w : Int × Int) : Int := if gsErr l ≠ 0 then gsErr l else if outsideB x (-1000000) 1000000 || badW w then 2 else 0
theorem view_ok {l : List Ga} {x : Int} {w : Int × Int} (h : viewErr l x w = 0) : GoodAll l ∧ (-1000000 ≤ x ∧ x ≤ 1000000) ∧ 0 ≤ w.1 ∧ w.1 ≤ w.2 ∧ w.2 ≤ 1000000 ∧ w.2 - w.1 ≤ 3000 := by
  unfold viewErr at h
  split at h
  · contradiction
  · rename_i h0
    split at h
    · cases h
    · rename_i h1
      simp [outsideB, badW] at h1
      exact ⟨goodAll (by simpa using h0), by omega, by omega, by omega, by omega, by omega⟩
/-- The least and the greatest of the first k minutes. -/
def spO (l : List Ga) (x a : Int) : Nat → Int × Int
  | 0 => (0, 0)
  | k + 1 => if k = 0 then ((lvS l x (a + k)).1, (lvS l x (a + k)).2.1) else (minI (spO l x a k).1 (lvS l x (a + k)).1, maxI (spO l x a k).2 (lvS l x (a + k)).2.1)
def mins (w : Int × Int) : Nat := (w.2 - w.1 + 1).toNat
def allOk (l : List Ga) (x : Int) (w : Int × Int) : Prop := ∀ j, j < mins w → (lvS l x (w.1 + j)).2.2 = true
open Classical in
noncomputable def spanS (l : List Ga) (x : Int) (w : Int × Int) : Int × Int × Bool := if allOk l x w then ((spO l x w.1 (mins w)).1, (spO l x w.1 (mins w)).2, true) else (0, 0, false)
theorem span_bad {l : List Ga} {x : Int} {w : Int × Int} {k : Nat} (hk : k < mins w) (h : (lvS l x (w.1 + k)).2.2 = false) : spanS l x w = (0, 0, false) := by
  unfold spanS
  rw [if_neg]
  intro hall
  rw [hall k hk] at h; cases h
theorem minI_self (a : Int) : minI a a = a := by unfold minI; split <;> omega
theorem maxI_self (a : Int) : maxI a a = a := by unfold maxI; split <;> omega
def lightB (v : Vw) : Bool := shortAll v.gs && (decide (v.w.1 < 0) || (decide (v.w.2 < v.w.1) || (decide (v.w.2 > 1000000) || (decide (v.w.2 - v.w.1 ≤ 150) || decide (v.w.2 - v.w.1 > 3000)))))
theorem span_z (l : List Ga) (x : Int) (w : Int × Int) (h : (spanS l x w).2.2 = false) : (spanS l x w).1 = 0 ∧ (spanS l x w).2.1 = 0 := by
  unfold spanS at h ⊢
  split at h
  · cases h
  · rename_i h'; simp [h']
end Go.Proofs.Tryz
end

section
namespace Go.Proofs.Tryz
open Go Go.Vm
set_option maxRecDepth 20000
set_option maxHeartbeats 2000000
/-- Is the level known, and does it satisfy the condition? -/
def gdB (l : List Ga) (x : Int) (p : Int → Int → Bool) (t : Int) : Bool := (lvS l x t).2.2 && p (lvS l x t).1 (lvS l x t).2.1
def wAdd (o : List (Int × Int)) (t : Int) : List (Int × Int) := match o.getLast? with
  | some z => if z.2 = t - 1 then o.dropLast ++ [(z.1, t)] else o ++ [(t, t)]
  | none => o ++ [(t, t)]
/-- The windows of the first k minutes. -/
def winS (l : List Ga) (x : Int) (p : Int → Int → Bool) (a : Int) : Nat → List (Int × Int)
  | 0 => []
  | k + 1 => if gdB l x p (a + k) then wAdd (winS l x p a k) (a + k) else winS l x p a k
theorem wAdd_snoc (o : List (Int × Int)) (z : Int × Int) (t : Int) : wAdd (o ++ [z]) t = if z.2 = t - 1 then o ++ [(z.1, t)] else o ++ [z] ++ [(t, t)] := by
  simp [wAdd]
theorem win_len (l : List Ga) (x : Int) (p : Int → Int → Bool) (a : Int) : ∀ k, (winS l x p a k).length ≤ k
  | 0 => by simp [winS]
  | k + 1 => by
    have ih := win_len l x p a k
    rw [winS]
    split
    · rcases nil_or_snoc (winS l x p a k) with h | ⟨o, z, h⟩
      · rw [h]; simp [wAdd]
      · rw [h] at ih ⊢
        rw [wAdd_snoc]
        split <;> simp at ih ⊢ <;> omega
    · omega
theorem win_lt (l : List Ga) (x : Int) (p : Int → Int → Bool) (a : Int) : ∀ k, ∀ z ∈ winS l x p a k, z.2 < a + k
  | 0, z, h => by cases h
  | k + 1, z, h => by
    have ih := win_lt l x p a k
    rw [winS] at h
    split at h
    · rcases nil_or_snoc (winS l x p a k) with e | ⟨o, y, e⟩
      · rw [e] at h; simp [wAdd] at h; subst h; dsimp only; omega
      · rw [e] at ih h
        rw [wAdd_snoc] at h
        split at h
        · rcases List.mem_append.1 h with h | h
          · have := ih z (by simp [h]); omega
          · rw [List.mem_singleton.1 h]; dsimp only; omega
        · rcases List.mem_append.1 h with h | h
          · have := ih z h; omega
          · rw [List.mem_singleton.1 h]; dsimp only; omega
    · have := ih z h; omega
def opB (l : List Ga) (x : Int) (p : Int → Int → Bool) (a : Int) : Nat → Bool
  | 0 => false
  | k + 1 => gdB l x p (a + k)
theorem win_open {l : List Ga} {x : Int} {p : Int → Int → Bool} {a : Int} : ∀ {k : Nat}, opB l x p a k = true → ∃ o z, winS l x p a k = o ++ [z] ∧ z.2 = a + k - 1
  | 0, h => by cases h
  | k + 1, h => by
    rw [opB] at h
    rw [winS, if_pos h]
    rcases nil_or_snoc (winS l x p a k) with e | ⟨o, y, e⟩
    · rw [e]; exact ⟨[], _, rfl, by dsimp only; omega⟩
    · rw [e, wAdd_snoc]
      split
      · exact ⟨_, _, rfl, by dsimp only; omega⟩
      · exact ⟨_, _, rfl, by dsimp only; omega⟩
theorem win_shut {l : List Ga} {x : Int} {p : Int → Int → Bool} {a : Int} : ∀ {k : Nat}, opB l x p a k = false → ∀ z ∈ winS l x p a k, z.2 < a + k - 1
  | 0, _, z, h => by cases h
  | k + 1, h, z, hz => by
    rw [opB] at h
    rw [winS, if_neg (by simp [h])] at hz
    have := win_lt l x p a k z hz
    omega
theorem set_last {α : Type} {f : α → D} {o : List α} {z : α} {n : Nat} {d : D} (hn : n = o.length) : ((o ++ [z]).map f).set n d = o.map f ++ [d] := by
  subst hn
  rw [List.map_append, List.set_append_right _ _ (by simp)]
  simp
def sureP (lv : Int) (lo _hi : Int) : Bool := decide (lo ≥ lv)
def possP (lv : Int) (_lo hi : Int) : Bool := decide (hi ≥ lv)
def srS (l : List Ga) (x lv : Int) (w : Int × Int) : List (Int × Int) := if viewErr l x w = 0 then winS l x (sureP lv) w.1 (mins w) else []
def psS (l : List Ga) (x lv : Int) (w : Int × Int) : List (Int × Int) := if viewErr l x w = 0 then winS l x (possP lv) w.1 (mins w) else []
end Go.Proofs.Tryz
end

section
namespace Go.Proofs.Tryz
open Go Go.Vm
set_option maxRecDepth 20000
set_option maxHeartbeats 2000000
theorem win_in (l : List Ga) (x : Int) (p : Int → Int → Bool) (a : Int) : ∀ k, ∀ z ∈ winS l x p a k, a ≤ z.1 ∧ z.1 ≤ z.2 ∧ z.2 < a + k
  | 0, z, h => by cases h
  | k + 1, z, h => by
    have ih := win_in l x p a k
    rw [winS] at h
    split at h
    · rcases nil_or_snoc (winS l x p a k) with e | ⟨o, y, e⟩
      · rw [e] at h; simp [wAdd] at h; subst h; dsimp only; omega
      · rw [e] at ih h
        rw [wAdd_snoc] at h
        split at h
        · rcases List.mem_append.1 h with h | h
          · have := ih z (by simp [h]); omega
          · have := ih y (by simp); rw [List.mem_singleton.1 h]; dsimp only; omega
        · rcases List.mem_append.1 h with h | h
          · have := ih z h; omega
          · rw [List.mem_singleton.1 h]; dsimp only; omega
    · have := ih z h; omega
theorem sr_in {l : List Ga} {x lv : Int} {w : Int × Int} : ∀ z ∈ srS l x lv w, 0 ≤ z.1 ∧ z.1 ≤ z.2 ∧ z.2 ≤ 1000000 := by
  intro z hz
  unfold srS at hz
  split at hz
  · rename_i h
    obtain ⟨-, -, h1, h2, h3, h4⟩ := view_ok h
    have := win_in _ _ _ _ _ z hz
    unfold mins at this
    omega
  · cases hz
theorem sr_len {l : List Ga} {x lv : Int} {w : Int × Int} : (srS l x lv w).length ≤ 3001 := by
  unfold srS
  split
  · rename_i h
    obtain ⟨-, -, h1, h2, h3, h4⟩ := view_ok h
    have := win_len l x (sureP lv) w.1 (mins w)
    unfold mins at *
    omega
  · simp
theorem ps_len {l : List Ga} {x lv : Int} {w : Int × Int} : (psS l x lv w).length ≤ 3001 := by
  unfold psS
  split
  · rename_i h
    obtain ⟨-, -, h1, h2, h3, h4⟩ := view_ok h
    have := win_len l x (possP lv) w.1 (mins w)
    unfold mins at *
    omega
  · simp
def longF : Int × Int → List (Int × Int) → Int × Int
  | b, [] => b
  | b, v :: r => longF (if v.2 - v.1 > b.2 - b.1 then v else b) r
def longS : List (Int × Int) → Int × Int
  | [] => (0, 0)
  | b :: r => longF b r
theorem longF_snoc (v : Int × Int) : ∀ (r : List (Int × Int)) (b : Int × Int), longF b (r ++ [v]) = if v.2 - v.1 > (longF b r).2 - (longF b r).1 then v else longF b r
  | [], _ => rfl
  | _ :: r, _ => longF_snoc v r _
theorem longF_in {P : Int × Int → Prop} : ∀ (r : List (Int × Int)) (b : Int × Int), P b → (∀ z ∈ r, P z) → P (longF b r)
  | [], _, h, _ => h
  | u :: r, _, h, hr => by
    refine longF_in r _ ?_ fun z hz => hr z (by simp [hz])
    split
    · exact hr u (by simp)
    · exact h
def sideP (lv : Int) (sure : Bool) : Int → Int → Bool := if sure then sureP lv else possP lv
end Go.Proofs.Tryz
end

section
namespace Go.Proofs.Tryz
open Go Go.Vm
set_option maxRecDepth 20000
set_option maxHeartbeats 2000000
theorem win_sep (l : List Ga) (x : Int) (p : Int → Int → Bool) (a : Int) : ∀ k o y, winS l x p a k = o ++ [y] → ∀ z ∈ o, z.2 < y.1
  | 0, o, y, h => by simp [winS] at h
  | k + 1, o, y, h => by
    have ih := win_sep l x p a k
    have hin := win_in l x p a k
    have hlt := win_lt l x p a k
    rw [winS] at h
    split at h
    · rcases nil_or_snoc (winS l x p a k) with e | ⟨o', y', e⟩
      · rw [e] at h
        obtain ⟨rfl, -⟩ := List.append_inj' (show ([] : List (Int × Int)) ++ [(a + (k : Int), a + (k : Int))] = o ++ [y] from h) rfl
        intro z hz; cases hz
      · rw [e, wAdd_snoc] at h
        split at h
        · obtain ⟨rfl, h2⟩ := List.append_inj' h rfl
          simp only [List.cons.injEq, and_true] at h2
          subst h2
          exact ih o' y' e
        · obtain ⟨rfl, h2⟩ := List.append_inj' h rfl
          simp only [List.cons.injEq, and_true] at h2
          subst h2
          intro z hz
          exact hlt z (by rw [e]; exact hz)
    · exact ih o y h
theorem win_good (l : List Ga) (x : Int) (p : Int → Int → Bool) (a : Int) : ∀ k, ∀ z ∈ winS l x p a k, ∀ t, z.1 ≤ t → t ≤ z.2 → gdB l x p t = true
  | 0, z, h => by cases h
  | k + 1, z, h => by
    have ih := win_good l x p a k
    rw [winS] at h
    split at h
    · rename_i hg
      rcases nil_or_snoc (winS l x p a k) with e | ⟨o, y, e⟩
      · rw [e] at h; simp [wAdd] at h; subst h
        intro t h1 h2
        dsimp only at h1 h2
        rw [show t = a + k by omega]; exact hg
      · rw [e] at ih h
        rw [wAdd_snoc] at h
        split at h
        · rename_i hy
          rcases List.mem_append.1 h with h | h
          · exact ih z (by simp [h])
          · rw [List.mem_singleton.1 h]
            intro t h1 h2
            dsimp only at h1 h2
            by_cases ht : t = a + k
            · rw [ht]; exact hg
            · exact ih y (by simp) t h1 (by omega)
        · rcases List.mem_append.1 h with h | h
          · exact ih z h
          · rw [List.mem_singleton.1 h]
            intro t h1 h2
            dsimp only at h1 h2
            rw [show t = a + k by omega]; exact hg
    · exact ih z h
theorem win_cov (l : List Ga) (x : Int) (p : Int → Int → Bool) (a : Int) : ∀ (k : Nat) (t0 t1 : Int), a ≤ t0 → t0 ≤ t1 → t1 < a + k → (∀ t, t0 ≤ t → t ≤ t1 → gdB l x p t = true) → ∃ z ∈ winS l x p a k, z.1 ≤ t0 ∧ t1 ≤ z.2
  | 0, t0, t1, h1, h2, h3, _ => by omega
  | k + 1, t0, t1, h1, h2, h3, h4 => by
    have ih := win_cov l x p a k
    have hin := win_in l x p a k
    have hsep := win_sep l x p a k
    rw [winS]
    by_cases ht : t1 = a + k
    · have hg := h4 t1 h2 (by omega)
      rw [ht] at hg
      rw [if_pos hg]
      rcases nil_or_snoc (winS l x p a k) with e | ⟨o, y, e⟩
      · by_cases h0 : t0 = a + k
        · rw [e]; exact ⟨(a + k, a + k), by simp [wAdd], by dsimp only; omega⟩
        · obtain ⟨z, hz, -⟩ := ih t0 (a + k - 1) h1 (by omega) (by omega) (fun t h5 h6 => h4 t h5 (by omega))
          rw [e] at hz; cases hz
      · by_cases h0 : t0 = a + k
        · rw [e, wAdd_snoc]
          split
          · have := hin y (by rw [e]; simp)
            exact ⟨(y.1, a + k), by simp, by dsimp only; omega⟩
          · exact ⟨(a + k, a + k), by simp, by dsimp only; omega⟩
        · obtain ⟨z, hz, k1, k2⟩ := ih t0 (a + k - 1) h1 (by omega) (by omega) (fun t h5 h6 => h4 t h5 (by omega))
          have hzi := hin z hz
          have hyi := hin y (by rw [e]; simp)
          rw [e] at hz
          have hzy : z = y := by
            rcases List.mem_append.1 hz with hz | hz
            · have := hsep o y e z hz; omega
            · exact List.mem_singleton.1 hz
          subst hzy
          rw [e, wAdd_snoc, if_pos (by omega)]
          exact ⟨(z.1, a + k), by simp, by dsimp only; omega⟩
    · obtain ⟨z, hz, k1, k2⟩ := ih t0 t1 h1 h2 (by omega) h4
      split
      · rcases nil_or_snoc (winS l x p a k) with e | ⟨o, y, e⟩
        · rw [e] at hz; cases hz
        · rw [e] at hz ⊢
          rw [wAdd_snoc]
          split
          · rcases List.mem_append.1 hz with hz | hz
            · exact ⟨z, by simp [hz], k1, k2⟩
            · rw [List.mem_singleton.1 hz] at k1 k2
              exact ⟨(y.1, a + k), by simp, by dsimp only; omega⟩
          · exact ⟨z, List.mem_append_left _ hz, k1, k2⟩
      · exact ⟨z, hz, k1, k2⟩
def coversB (big small : List (Int × Int)) : Bool := small.all fun s => big.any fun b => decide (b.1 ≤ s.1) && decide (s.2 ≤ b.2)
theorem win_covers {l l' : List Ga} {x : Int} {p p' : Int → Int → Bool} {a : Int} {k : Nat} (h : ∀ t, a ≤ t → t < a + k → gdB l x p t = true → gdB l' x p' t = true) : coversB (winS l' x p' a k) (winS l x p a k) = true := by
  rw [coversB, List.all_eq_true]
  intro s hs
  have hi := win_in _ _ _ _ _ s hs
  obtain ⟨z, hz, h1, h2⟩ := win_cov l' x p' a k s.1 s.2 hi.1 hi.2.1 hi.2.2 (fun t h1 h2 => h t (by omega) (by omega) (win_good _ _ _ _ _ s hs t h1 h2))
  exact List.any_eq_true.2 ⟨z, hz, by simp [h1, h2]⟩
theorem bool_congr {b b' : Bool} (h : b = b') : AV.d (.bool b) = AV.d (.bool b') := by rw [h]
end Go.Proofs.Tryz
end

section
namespace Go.Proofs.Tryz
open Go Go.Vm
set_option maxRecDepth 20000
set_option maxHeartbeats 2000000
def rlx (d : Int) (g : Ga) : Ga := { g with err := maxI 0 (g.err - d) }
theorem rlx_rec {d : Int} {g : Ga} (hd : 0 ≤ d) (h : recErr g = 0) : recErr (rlx d g) = 0 := by
  have hG := good_of_rec h
  have he := hG.err
  have hx := hG.x
  have hl := hG.len
  have : 0 ≤ maxI 0 (g.err - d) ∧ maxI 0 (g.err - d) ≤ 1000 := by unfold maxI; split <;> omega
  unfold recErr
  have e1 : (rlx d g).err = maxI 0 (g.err - d) := rfl
  have e2 : (rlx d g).x = g.x := rfl
  have e3 : (rlx d g).marks = g.marks := rfl
  rw [if_neg (by simp only [outsideB, Bool.or_eq_true, decide_eq_true_eq, e1, e2]; omega), if_neg (by rw [e3]; omega)]
  exact markErr_of hG.ok hG.asc (fun q h => (by cases h))
theorem rlx_gs {d : Int} (hd : 0 ≤ d) : ∀ (r o : List Ga), gsGo o r = 0 → gsGo (o.map (rlx d)) (r.map (rlx d)) = 0
  | [], o, _ => rfl
  | g :: r, o, h => by
    have ih := rlx_gs hd r (o ++ [g])
    rw [List.map_append] at ih
    rw [gsGo] at h
    split at h
    · cases h
    · rename_i h1
      split at h
      · cases h
      · rename_i h2
        split at h
        · contradiction
        · rename_i h3
          have h3 : recErr g = 0 := by simpa using h3
          have e2 : (o.map (rlx d)).any (sameN (rlx d g)) = o.any (sameN g) := by rw [List.any_map]; rfl
          simp only [List.map_cons]
          rw [gsGo, if_neg (show ¬ nameB (rlx d g).name = false from h1), e2, if_neg h2, if_neg (by rw [rlx_rec hd h3]; simp), List.getLast?_map]
          cases hz : o.getLast? with
          | none =>
            rw [hz] at h
            exact ih h
          | some z =>
            rw [hz] at h
            simp only at h
            split at h
            · cases h
            · rename_i h4
              simp only [Option.map_some]
              rw [if_neg (by exact h4)]
              exact ih h
theorem rlx_at {d : Int} {g : Ga} (hd : 0 ≤ d) (h : Good g) (t : Int) : (atS (rlx d g) t).2.2 = (atS g t).2.2 ∧ (atS g t).1 ≤ (atS (rlx d g) t).1 := by
  have he := h.err
  have e : meanS (rlx d g) t = meanS g t := rfl
  unfold atS
  rw [e]
  split
  · refine ⟨rfl, ?_⟩
    simp only [rlx, maxI]
    split <;> omega
  · exact ⟨rfl, by dsimp only; omega⟩
theorem rlx_pos (d : Int) (l : List Ga) (x : Int) : posX (l.map (rlx d)) x = posX l x := by
  unfold posX
  rw [List.takeWhile_map, List.length_map]
  rfl
theorem rlx_lv {d : Int} {l : List Ga} {x t : Int} (hd : 0 ≤ d) (hG : GoodAll l) : (lvS (l.map (rlx d)) x t).2.2 = (lvS l x t).2.2 ∧ (lvS l x t).1 ≤ (lvS (l.map (rlx d)) x t).1 := by
  have hp := posX_spec (x := x) hG.asc
  unfold lvS
  rw [rlx_pos]
  generalize posX l x = p at *
  unfold lvF
  rw [List.getElem?_map]
  cases hb : l[p]? with
  | none =>
    simp only [Option.map_none]
    cases p with
    | zero => exact ⟨rfl, by dsimp only; omega⟩
    | succ q =>
      simp only [List.getElem?_map]
      cases ha : l[q]? with
      | none => exact ⟨rfl, by dsimp only [Option.map_none]; omega⟩
      | some a => exact rlx_at hd (ga_good hG ha) t
  | some b =>
    simp only [Option.map_some]
    have ex : (rlx d b).x = b.x := rfl
    rw [ex]
    split
    · exact rlx_at hd (ga_good hG hb) t
    · cases p with
      | zero => exact rlx_at hd (ga_good hG hb) t
      | succ q =>
        simp only [List.getElem?_map]
        cases ha : l[q]? with
        | none => exact ⟨rfl, by dsimp only [Option.map_none]; omega⟩
        | some a =>
          simp only [Option.map_some]
          obtain ⟨a1, a2⟩ := rlx_at hd (ga_good hG ha) t
          obtain ⟨b1, b2⟩ := rlx_at hd (ga_good hG hb) t
          have hax := (hp q a ha).1 (by omega)
          have hbx := (hp (q + 1) b hb).2 (by omega)
          unfold mixS
          rw [a1, b1]
          have ea : (rlx d a).x = a.x := rfl
          rw [ea, ex]
          split
          · refine ⟨rfl, ?_⟩
            dsimp only
            refine Int.ediv_le_ediv (by omega) ?_
            have m1 : (atS a t).1 * (b.x - x) ≤ (atS (rlx d a) t).1 * (b.x - x) := Int.mul_le_mul_of_nonneg_right a2 (by omega)
            have m2 : (atS b t).1 * (x - a.x) ≤ (atS (rlx d b) t).1 * (x - a.x) := Int.mul_le_mul_of_nonneg_right b2 (by omega)
            omega
          · exact ⟨rfl, by dsimp only; omega⟩
theorem lv_le {l : List Ga} {x t : Int} (hG : GoodAll l) : (lvS l x t).1 ≤ (lvS l x t).2.1 := by
  have hp := posX_spec (x := x) hG.asc
  unfold lvS
  generalize posX l x = p at *
  unfold lvF
  cases hb : l[p]? with
  | none =>
    cases p with
    | zero => simp
    | succ q =>
      cases ha : l[q]? with
      | none => simp only [ha]; omega
      | some a => simp only [ha]; exact at_le (ga_good hG ha)
  | some b =>
    by_cases hbx : b.x = x
    · simp only [hbx, if_true]; exact at_le (ga_good hG hb)
    · cases p with
      | zero => simp only [hbx, if_false]; exact at_le (ga_good hG hb)
      | succ q =>
        cases ha : l[q]? with
        | none => simp only [hbx, if_false, ha]; omega
        | some a =>
          simp only [hbx, if_false, ha]
          have hax := (hp q a ha).1 (by omega)
          have hbx' := (hp (q + 1) b hb).2 (by omega)
          unfold mixS
          split
          · have := (mix_facts (p := b.x - x) (q := x - a.x) (by omega) (by omega) (by omega) (at_le (t := t) (ga_good hG ha)) (at_le (t := t) (ga_good hG hb))).2.2
            rw [show b.x - x + (x - a.x) = b.x - a.x by omega] at this
            exact this
          · dsimp only; omega
/-- The three coverings, and the mean at every minute of a sure window. -/
theorem nest_pos {l : List Ga} {x lv : Int} {w : Int × Int} (h : viewErr l x w = 0) : coversB (psS l x lv w) (srS l x lv w) = true := by
  obtain ⟨hG, -⟩ := view_ok h
  rw [psS, if_pos h, srS, if_pos h]
  refine win_covers fun t _ _ ht => ?_
  have := lv_le (x := x) (t := t) hG
  simp only [gdB, sureP, possP, Bool.and_eq_true, decide_eq_true_eq] at ht ⊢
  exact ⟨ht.1, by omega⟩
theorem nest_low {l : List Ga} {x lv d : Int} {w : Int × Int} (hd : 0 ≤ d) (h : viewErr l x w = 0) : coversB (srS l x (lv - d) w) (srS l x lv w) = true := by
  rw [srS, if_pos h, srS, if_pos h]
  refine win_covers fun t _ _ ht => ?_
  simp only [gdB, sureP, Bool.and_eq_true, decide_eq_true_eq] at ht ⊢
  exact ⟨ht.1, by omega⟩
theorem rlx_gsE {l : List Ga} {d : Int} (hd : 0 ≤ d) (h : gsErr l = 0) : gsErr (l.map (rlx d)) = 0 := by
  have hl := (goodAll h).len
  unfold gsErr at h ⊢
  rw [if_neg (by omega)] at h
  rw [if_neg (by rw [List.length_map]; omega)]
  exact rlx_gs hd l [] h
theorem rlx_view {l : List Ga} {x d : Int} {w : Int × Int} (hd : 0 ≤ d) (h0 : gsErr l = 0) : viewErr (l.map (rlx d)) x w = viewErr l x w := by
  unfold viewErr
  rw [h0, rlx_gsE hd h0]
theorem nest_err {l : List Ga} {x lv d : Int} {w : Int × Int} (hd : 0 ≤ d) (h0 : gsErr l = 0) (h : viewErr l x w = 0) : coversB (srS (l.map (rlx d)) x lv w) (srS l x lv w) = true := by
  have h' := h
  rw [← rlx_view hd h0] at h'
  rw [srS, if_pos h', srS, if_pos h]
  refine win_covers fun t _ _ ht => ?_
  obtain ⟨e1, e2⟩ := rlx_lv (x := x) (t := t) hd (goodAll h0)
  simp only [gdB, sureP, Bool.and_eq_true, decide_eq_true_eq] at ht ⊢
  exact ⟨by rw [e1]; exact ht.1, by omega⟩
theorem nest_mean {g : Ga} {x lv : Int} {w : Int × Int} (h : viewErr [g] x w = 0) {z : Int × Int} (hz : z ∈ srS [g] x lv w) {t : Int} (h1 : z.1 ≤ t) (h2 : t ≤ z.2) : (meanS g t).2.2 = true ∧ lv * (meanS g t).2.1 ≤ (meanS g t).1 := by
  obtain ⟨hG, -⟩ := view_ok h
  rw [srS, if_pos h] at hz
  have hg := win_good _ _ _ _ _ z hz t h1 h2
  have hGg := ga_good hG (i := 0) (g := g) rfl
  have e : lvS [g] x t = atS g t := by
    have hp := posX_spec (x := x) hG.asc
    unfold lvS
    have hpl := posX_le [g] x
    have : posX [g] x = 0 ∨ posX [g] x = 1 := by simp at hpl; omega
    rcases this with e | e <;> rw [e] <;> simp [lvF]
  simp only [gdB, sureP, Bool.and_eq_true, decide_eq_true_eq, e] at hg
  have hb := mean_bd (t := t) hGg
  have he := hGg.err
  unfold atS at hg
  split at hg
  · rename_i hm
    refine ⟨hm, ?_⟩
    have h3 := Int.ediv_mul_le (meanS g t).1 (Int.ne_of_gt hb.1)
    have h4 : lv * (meanS g t).2.1 ≤ (meanS g t).1 / (meanS g t).2.1 * (meanS g t).2.1 := Int.mul_le_mul_of_nonneg_right (by have := hg.2; dsimp only at this; omega) (by omega)
    omega
  · exact absurd hg.1 (by decide)
def mixL (d : Int) (l : List Ga) (i : Nat) : List Ga := (l.take i).map (rlx d) ++ l.drop i
theorem mix_get {d : Int} {l : List Ga} {i : Nat} {g : Ga} (h : l[i]? = some g) : (mixL d l i)[i]? = some g := by
  have := lt_of_some h
  unfold mixL
  rw [List.getElem?_append_right (by simp; omega)]
  simp [List.getElem?_drop, show i - min i l.length = 0 by omega, h]
theorem mix_set {d : Int} {l : List Ga} {i : Nat} {g : Ga} (h : l[i]? = some g) : ((mixL d l i).map gD).set i (gD (rlx d g)) = (mixL d l (i + 1)).map gD := by
  have := lt_of_some h
  unfold mixL
  rw [take_snoc h, drop_of h]
  simp only [List.map_append, List.map_cons, List.map_nil]
  rw [List.set_append_right _ _ (by simp; omega)]
  simp [show i - min i l.length = 0 by omega]
end Go.Proofs.Tryz
end
