import Derived.Test.YticnipadahihhaaTwH
namespace Go.Proofs.Try
open Go Go.Vm
set_option maxRecDepth 20000
set_option maxHeartbeats 2000000
def shM (z : Int) (m : Mk) : Mk := ⟨m.m, m.l + z⟩
def shG (z : Int) (g : Ga) : Ga := { g with marks := g.marks.map (shM z) }
def badSh (z : Int) (g : Ga) : Bool := g.marks.any fun m => wrongB m.m (m.l + z)
def shE (z : Int) (g : Ga) : Int := if gErr g ≠ 0 then gErr g else if outsideB z (-40000) 40000 || badSh z g then 2 else 0
def shR (z : Int) (g : Ga) : Ga := if shE z g = 0 then shG z g else gzG
theorem bad_at {z : Int} {g : Ga} {i : Nat} {m : Mk} (hm : g.marks[i]? = some m) (h : wrongB m.m (m.l + z) = true) : badSh z g = true :=
  List.any_eq_true.2 ⟨m, List.mem_of_getElem? hm, h⟩
theorem take_snoc {α : Type} {l : List α} {i : Nat} {m : α} (h : l[i]? = some m) : l.take (i + 1) = l.take i ++ [m] := by
  rw [List.take_add_one, h]; rfl
theorem not_bad {z : Int} {g : Ga} (h : ∀ m ∈ g.marks, wrongB m.m (m.l + z) = false) : badSh z g = false := by
  rw [Bool.eq_false_iff]; intro hb
  obtain ⟨m, hm, hw⟩ := List.any_eq_true.1 hb
  rw [h m hm] at hw; cases hw
theorem sh_mean : ∀ (l : List Mk) (z t : Int), meanR (l.map (shM z)) t = (meanR l t).map fun x => (x.1 + z * x.2, x.2)
  | [], z, t => rfl
  | [b], z, t => by
    simp only [List.map_cons, List.map_nil, meanR, shM]
    split <;> simp
  | a :: b :: r, z, t => by
    have ih := sh_mean (b :: r) z t
    simp only [List.map_cons, meanR, shM] at ih ⊢
    split
    · simp
    · split
      · simp
      · split
        · simp only [Option.map_some, Option.some.injEq, Prod.mk.injEq, and_true]; grind
        · exact ih
theorem shG_ok {g : Ga} {z : Int} (h : shE z g = 0) : gErr (shG z g) = 0 ∧ gErr g = 0 ∧ -40000 ≤ z ∧ z ≤ 40000 := by
  unfold shE at h
  split at h
  · contradiction
  · rename_i h0
    have h0 : gErr g = 0 := by simpa using h0
    split at h
    · cases h
    · rename_i h1
      simp only [Bool.or_eq_true, not_or, Bool.not_eq_true] at h1
      obtain ⟨n1, n2⟩ := gErr_parts.1 h0
      refine ⟨gErr_parts.2 ⟨n1, n2.err, n2.x, by simpa [shG] using n2.len, ?_, ?_⟩, h0, ?_⟩
      · intro m hm
        obtain ⟨x, hx, rfl⟩ := List.mem_map.1 hm
        have := h1.2
        rw [badSh, List.any_eq_false] at this
        show wrongB x.m (x.l + z) = false
        simpa using this x hx
      · exact List.pairwise_map.2 n2.asc
      · have := h1.1; simp [outsideB] at this; omega
theorem sh_at {g : Ga} {z t : Int} (h : shE z g = 0) : (atS (shG z g) t).2.2 = (atS g t).2.2 ∧ ((atS g t).2.2 = true → (atS (shG z g) t).1 = (atS g t).1 + z ∧ (atS (shG z g) t).2.1 = (atS g t).2.1 + z) := by
  obtain ⟨h1, h2, -⟩ := shG_ok h
  unfold atS meanS
  rw [meanR_eq (good_of h1).asc, meanR_eq (good_of h2).asc]
  have e : (shG z g).marks = g.marks.map (shM z) := rfl
  rw [e, sh_mean]
  cases hm : meanR g.marks t with
  | none => simp [mean3]
  | some x =>
    obtain ⟨n, d⟩ := x
    have hd := meanR_pos (good_of h2).asc hm
    simp only [Option.map_some, mean3, if_true, true_and]
    intro _
    have e1 : (n + z * d) / d = n / d + z := Int.add_mul_ediv_right n z (by omega)
    have e2 : upZ (n + z * d) d = upZ n d + z := by
      unfold upZ
      rw [show -(n + z * d) = -n + (-z) * d by grind, Int.add_mul_ediv_right _ _ (by omega)]
      omega
    rw [e1, e2]
    simp only [shG]
    omega
theorem sh_back {g : Ga} {z : Int} (h : shE z g = 0) : shE (-z) (shG z g) = 0 ∧ shG (-z) (shG z g) = g := by
  obtain ⟨h1, h2, h3⟩ := shG_ok h
  have e : shG (-z) (shG z g) = g := by
    refine ga_ext rfl rfl rfl ?_
    simp only [shG, List.map_map]
    conv => rhs; rw [← List.map_id g.marks]
    exact List.map_congr_left fun m _ => mk_ext rfl (by simp [shM]; omega)
  refine ⟨?_, e⟩
  unfold shE
  rw [if_neg (by simp [h1])]
  have : badSh (-z) (shG z g) = false := by
    rw [badSh, List.any_eq_false]
    intro m hm
    obtain ⟨x, hx, rfl⟩ := List.mem_map.1 hm
    have := (good_of h2).ok x hx
    simp only [shM, show x.l + z + -z = x.l by omega, this]; simp
  rw [this]
  simp [outsideB]; omega
end Go.Proofs.Try
