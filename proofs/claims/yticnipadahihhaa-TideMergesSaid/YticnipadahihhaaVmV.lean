/- Little lemmas for walking. -/
import Derived.Test.YticnipadahihhaaVmU
namespace Go.Vm

theorem Split.dec {p : Prop} {i : Decidable p} {A B : Prop} (h1 : p → A) (h2 : ¬ p → B) : Split (@decide p i) A B :=
  ⟨fun h => h1 (of_decide_eq_true h), fun h => h2 (of_decide_eq_false h)⟩
theorem Split.neg {b : Bool} {A B : Prop} (h : Split b B A) : Split (!b) A B :=
  ⟨fun e => h.no (by cases b <;> simp_all), fun e => h.yes (by cases b <;> simp_all)⟩
theorem Split.eqz {a b : Int} {A B : Prop} (h1 : a = b → A) (h2 : a ≠ b → B) : Split (a == b) A B :=
  ⟨fun h => h1 (by simpa using h), fun h => h2 (by simpa using h)⟩
theorem Split.nez {a b : Int} {A B : Prop} (h1 : a ≠ b → A) (h2 : a = b → B) : Split (a != b) A B :=
  ⟨fun h => h1 (by simpa using h), fun h => h2 (by simpa using h)⟩
theorem Split.is_true {b : Bool} {A B : Prop} (h : b = true) (a : A) : Split b A B := by subst h; exact .of_true a
theorem Split.is_false {b : Bool} {A B : Prop} (h : b = false) (a : B) : Split b A B := by subst h; exact .of_false a
theorem Split.and {a b : Bool} {A B : Prop} (h : Split a (Split b A B) B) : Split (a && b) A B :=
  ⟨fun e => by simp only [Bool.and_eq_true] at e; exact (h.yes e.1).yes e.2, fun e => by
    cases ha : a with
    | false => exact h.no ha
    | true => exact (h.yes ha).no (by rw [ha] at e; exact e)⟩
theorem Split.or {a b : Bool} {A B : Prop} (h : Split a A (Split b A B)) : Split (a || b) A B :=
  ⟨fun e => by
    cases ha : a with
    | true => exact h.yes ha
    | false => exact (h.no ha).yes (by rw [ha] at e; exact e), fun e => by simp only [Bool.or_eq_false_iff] at e; exact (h.no e.1).no e.2⟩
theorem toList_loop (s : ByteArray) : ∀ (n i : Nat) (r : List UInt8), n = s.size - i → ByteArray.toList.loop s i r = r.reverse ++ s.data.toList.drop i
  | 0, i, r, h => by
    have : s.size ≤ i := by omega
    rw [ByteArray.toList.loop.eq_1, if_neg (by omega), List.drop_eq_nil_of_le (by simpa using this)]
    simp
  | n + 1, i, r, h => by
    have hi : i < s.size := by omega
    rw [ByteArray.toList.loop.eq_1, if_pos hi, toList_loop s n (i + 1) _ (by omega)]
    have : i < s.data.toList.length := by simpa using hi
    rw [List.drop_eq_getElem_cons this]
    simp only [ByteArray.get!, List.reverse_cons, List.append_assoc, List.cons_append, List.nil_append]
    rw [getElem!_pos s.data i hi]
    rfl
theorem toList_eq (s : ByteArray) : s.toList = s.data.toList := by
  rw [ByteArray.toList, toList_loop s _ 0 [] rfl]; simp
theorem toList_inj {s t : ByteArray} (h : s.toList = t.toList) : s = t := by
  rw [toList_eq, toList_eq] at h
  cases s; cases t
  simp only [Array.toList_inj] at h
  subst h; rfl
theorem Split.streq {s t : ByteArray} {A B : Prop} (h1 : s = t → A) (h2 : s ≠ t → B) : Split (s.toList == t.toList) A B :=
  ⟨fun h => h1 (toList_inj (by simpa using h)), fun h => h2 (by rintro rfl; simp at h)⟩
theorem Split.booleq {a b : Bool} {A B : Prop} (h1 : a = b → A) (h2 : a ≠ b → B) : Split (a == b) A B :=
  ⟨fun h => h1 (by simpa using h), fun h => h2 (by simpa using h)⟩
theorem shrZ_one (a : Int) : shrZ a 1 = a / 2 := rfl
theorem Wr.inu {n : Int} {k : Int → Prop} (h : 0 ≤ n ∧ n ≤ 18446744073709551615) (r : k n) : Wr .u64 n k := ⟨n, by
  simp only [IntKind.wrap, IntKind.bits, IntKind.signed]; simp; omega, r⟩
theorem PickE.map {α : Type} {f : α → D} {l : List α} {j : Nat} (i : Nat) {m : α} {k : D → Prop} (h : l[i]? = some m) (hj : j = i) (r : k (f m)) : PickE (l.map f) j k :=
  ⟨f m, by rw [hj, List.getElem?_map, h]; rfl, r⟩
theorem Need.mk' {p A : Prop} (h : p) (r : A) : Need p A := ⟨h, r⟩
theorem some_of_lt {α : Type} {l : List α} {i : Nat} (h : i < l.length) : ∃ m, l[i]? = some m := ⟨l[i], List.getElem?_eq_getElem h⟩
theorem drop_of {α : Type} {l : List α} {i : Nat} {m : α} (h : l[i]? = some m) : l.drop i = m :: l.drop (i + 1) := by
  obtain ⟨h1, h2⟩ := List.getElem?_eq_some_iff.1 h
  rw [← h2]
  exact List.drop_eq_getElem_cons h1
end Go.Vm
