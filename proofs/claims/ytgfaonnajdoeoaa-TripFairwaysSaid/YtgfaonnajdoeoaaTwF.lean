import Derived.Test.YtgfaonnajdoeoaaTwE
namespace Go.Proofs.Try
open Go Go.Vm
set_option maxRecDepth 20000
set_option maxHeartbeats 2000000
def gzG : Ga := ⟨⟨#[]⟩, 0, 0, []⟩
open Classical in
noncomputable def eqB {α : Type} (a b : α) : Bool := decide (a = b)
theorem eqB_self {α : Type} (a : α) : eqB a a = true := by simp [eqB]
theorem eqB_of {α : Type} {a b : α} (h : a = b) : eqB a b = true := by simp [eqB, h]
theorem eqB_ne {α : Type} {a b : α} (h : a ≠ b) : eqB a b = false := by simp [eqB, h]
theorem mk_ext {m n : Mk} (h1 : m.m = n.m) (h2 : m.l = n.l) : m = n := by cases m; cases n; simp_all
theorem ga_ext {m n : Ga} (h1 : m.name = n.name) (h2 : m.x = n.x) (h3 : m.err = n.err) (h4 : m.marks = n.marks) : m = n := by cases m; cases n; simp_all
theorem take_succ_eq {α : Type} {a b : List α} {i : Nat} {x : α} (ha : a[i]? = some x) (hb : b[i]? = some x) (h : a.take i = b.take i) : a.take (i + 1) = b.take (i + 1) := by
  rw [List.take_add_one, List.take_add_one, h, ha, hb]
theorem eq_of_take {α : Type} {a b : List α} {i : Nat} (h : a.take i = b.take i) (ha : a.length ≤ i) (hb : b.length ≤ i) : a = b := by
  rwa [List.take_of_length_le ha, List.take_of_length_le hb] at h
theorem eqB_one {α : Type} (a b : α) : eqB [a] [b] = eqB a b := by
  by_cases h : a = b
  · rw [eqB_of h, eqB_of (by rw [h])]
  · rw [eqB_ne h, eqB_ne (by simpa using h)]
def SInv (g : Ga) (i : Nat) (out : List Mk) : Prop := i ≤ g.marks.length ∧ out.length ≤ i ∧ simpGo none g.marks = out ++ simpGo out.getLast? (g.marks.drop i) ∧ (out = [] → i = 0) ∧ ∀ m ∈ out, m ∈ g.marks
theorem sinv_skip {g : Ga} {i : Nat} {o : List Mk} {a m b : Mk} (h : SInv g i (o ++ [a])) (hm : g.marks[i]? = some m) (hb : g.marks[i+1]? = some b) (hs : straightB a m b = true) : SInv g (i + 1) (o ++ [a]) := by
  obtain ⟨h1, h2, h3, h4, h5⟩ := h
  have hi := (List.getElem?_eq_some_iff.1 hm).1
  refine ⟨by omega, by omega, ?_, by simp, h5⟩
  rw [h3, drop_of hm, drop_of hb]
  simp [simpGo, hs]
theorem sinv_push {g : Ga} {i : Nat} {out : List Mk} {m : Mk} (h : SInv g i out) (hm : g.marks[i]? = some m)
    (hc : i = 0 ∨ i + 1 = g.marks.length ∨ ∃ o a b, out = o ++ [a] ∧ g.marks[i+1]? = some b ∧ straightB a m b = false) : SInv g (i + 1) (out ++ [m]) := by
  obtain ⟨h1, h2, h3, h4, h5⟩ := h
  have hi := (List.getElem?_eq_some_iff.1 hm).1
  refine ⟨by omega, by simp; omega, ?_, by simp, ?_⟩
  · rw [h3, drop_of hm]
    rcases hc with rfl | hc | ⟨o, a, b, rfl, hb, hs⟩
    · have : out = [] := List.eq_nil_of_length_eq_zero (by omega)
      subst this
      simp [simpGo]
    · rw [List.drop_eq_nil_of_le (by omega : g.marks.length ≤ i + 1)]
      rcases nil_or_snoc out with rfl | ⟨o, a, rfl⟩ <;> simp [simpGo]
    · rw [drop_of hb]
      simp [simpGo, hs]
  · intro x hx
    rcases List.mem_append.1 hx with hx | hx
    · exact h5 x hx
    · rw [List.mem_singleton.1 hx]; exact List.mem_of_getElem? hm
theorem sinv_end {g : Ga} {i : Nat} {out : List Mk} (h : SInv g i out) (hi : g.marks.length ≤ i) : simpGo none g.marks = out := by
  rw [h.2.2.1, List.drop_eq_nil_of_le hi]
  cases out.getLast? <;> simp [simpGo]
end Go.Proofs.Try
