import Derived.Test.YtgfaonnajdoeoaaTwI
import Derived.Test.YtgfaonnajdoeoaaVmY
namespace Go.Proofs.Try
open Go Go.Vm
set_option maxRecDepth 20000
set_option maxHeartbeats 2000000
def midM (a b : Mk) (k p : Int) : Mk := ⟨a.m + k * (b.m - a.m) / 6, a.l + p * (b.l - a.l) / 12⟩
def midL : List (Int × Int) := [(1, 1), (2, 3), (3, 6), (4, 9), (5, 11)]
def addTw (acc : List Mk) (n : Mk) : List Mk := match acc.getLast? with
  | some z => if z.m < n.m then acc ++ [n] else acc
  | none => acc
def mids (acc : List Mk) (a b : Mk) (k : Nat) : List Mk := (midL.take k).foldl (fun acc x => addTw acc (midM a b x.1 x.2)) acc
def twGo : List Mk → Mk → List Mk → List Mk
  | acc, _, [] => acc
  | acc, a, b :: r => twGo (mids acc a b 5 ++ [b]) b r
def twL : List Mk → List Mk
  | [] => []
  | a :: r => twGo [a] a r
theorem addTw_snoc (o : List Mk) (z n : Mk) : addTw (o ++ [z]) n = if z.m < n.m then o ++ [z] ++ [n] else o ++ [z] := by simp [addTw]
theorem mids_succ {acc : List Mk} {a b : Mk} {k : Nat} {x : Int × Int} (h : midL[k]? = some x) : mids acc a b (k + 1) = addTw (mids acc a b k) (midM a b x.1 x.2) := by
  unfold mids
  rw [take_snoc h, List.foldl_append]
  rfl
theorem midL_of {k : Nat} {x : Int × Int} (h : midL[k]? = some x) : (k = 0 ∧ x = (1, 1)) ∨ (k = 1 ∧ x = (2, 3)) ∨ (k = 2 ∧ x = (3, 6)) ∨ (k = 3 ∧ x = (4, 9)) ∨ (k = 4 ∧ x = (5, 11)) := by
  have := lt_of_some h
  have : k = 0 ∨ k = 1 ∨ k = 2 ∨ k = 3 ∨ k = 4 := by simp [midL] at this; omega
  rcases this with rfl | rfl | rfl | rfl | rfl <;> simp [midL] at h <;> simp [h]
theorem midM_in {a b : Mk} {k : Nat} {x : Int × Int} (h : midL[k]? = some x) (hab : a.m < b.m) : a.m ≤ (midM a b x.1 x.2).m ∧ (midM a b x.1 x.2).m < b.m ∧ min a.l b.l ≤ (midM a b x.1 x.2).l ∧ (midM a b x.1 x.2).l ≤ max a.l b.l := by
  rcases midL_of h with ⟨-, rfl⟩ | ⟨-, rfl⟩ | ⟨-, rfl⟩ | ⟨-, rfl⟩ | ⟨-, rfl⟩ <;> simp only [midM] <;> omega
theorem mids_snoc {a b : Mk} (hab : a.m < b.m) : ∀ (k : Nat) (o : List Mk), ∃ o' z, mids (o ++ [a]) a b k = o' ++ [z] ∧ a.m ≤ z.m ∧ z.m < b.m
  | 0, o => ⟨o, a, rfl, by omega, hab⟩
  | k + 1, o => by
    obtain ⟨o', z, h, h1, h2⟩ := mids_snoc hab k o
    cases hk : midL[k]? with
    | none =>
      refine ⟨o', z, ?_, h1, h2⟩
      rw [← h]
      unfold mids
      have := List.getElem?_eq_none_iff.1 hk
      rw [List.take_of_length_le (by omega), List.take_of_length_le (by omega)]
    | some x =>
      have hin := midM_in hk hab
      rw [mids_succ hk, h, addTw_snoc]
      split
      · exact ⟨_, _, rfl, hin.1, hin.2.1⟩
      · exact ⟨_, _, rfl, h1, h2⟩
theorem mids_len {acc : List Mk} {a b : Mk} : ∀ (k : Nat), (mids acc a b k).length ≤ acc.length + k
  | 0 => by simp [mids]
  | k + 1 => by
    have := mids_len (acc := acc) (a := a) (b := b) k
    cases hk : midL[k]? with
    | none =>
      have hn := List.getElem?_eq_none_iff.1 hk
      unfold mids at this ⊢
      rw [List.take_of_length_le (by omega)] at this ⊢
      omega
    | some x =>
      rw [mids_succ hk, addTw]
      split
      · split <;> simp <;> omega
      · omega
theorem part_of {k : Nat} (h : k < 5) : ∃ p : Int, [D.int .i64 1, D.int .i64 3, D.int .i64 6, D.int .i64 9, D.int .i64 11][k]? = some (.int .i64 p) ∧ midL[k]? = some ((k : Int) + 1, p) ∧ 1 ≤ p ∧ p ≤ 11 := by
  have : k = 0 ∨ k = 1 ∨ k = 2 ∨ k = 3 ∨ k = 4 := by omega
  rcases this with rfl | rfl | rfl | rfl | rfl <;> exact ⟨_, rfl, rfl, by omega, by omega⟩
def TInv (g : Ga) (i : Nat) (acc : List Mk) : Prop := i ≤ g.marks.length ∧ acc.length ≤ 6 * i ∧ (i = 0 → acc = []) ∧
  ∀ j, i = j + 1 → ∃ o a, g.marks[j]? = some a ∧ acc = o ++ [a] ∧ twL g.marks = twGo acc a (g.marks.drop i)
theorem tinv_first {g : Ga} {b : Mk} (hm : g.marks[0]? = some b) : TInv g 1 [b] := by
  have := lt_of_some hm
  refine ⟨by omega, by simp, fun h => by omega, fun j hj => ?_⟩
  obtain rfl : j = 0 := by omega
  refine ⟨[], b, hm, rfl, ?_⟩
  have e := drop_of hm
  rw [List.drop_zero] at e
  rw [e]; rfl
theorem tinv_step {g : Ga} {j : Nat} {o : List Mk} {a b : Mk} (h : TInv g (j + 1) (o ++ [a])) (ha : g.marks[j]? = some a) (hb : g.marks[j + 1]? = some b) : TInv g (j + 2) (mids (o ++ [a]) a b 5 ++ [b]) := by
  have := lt_of_some hb
  obtain ⟨h1, h2, h3, h4⟩ := h
  have hl := mids_len (acc := o ++ [a]) (a := a) (b := b) 5
  refine ⟨by omega, by rw [List.length_append]; simp only [List.length_cons, List.length_nil]; omega, fun h => by omega, fun i hi => ?_⟩
  obtain rfl : i = j + 1 := by omega
  refine ⟨_, b, hb, rfl, ?_⟩
  obtain ⟨o', a', k1, k2, k3⟩ := h4 j rfl
  rw [ha] at k1; cases k1
  rw [k3, drop_of hb, twGo]
def twE (g : Ga) : Int := if gErr g ≠ 0 then gErr g else if 400 < (twL g.marks).length then 8 else 0
def twR (g : Ga) : Ga := if twE g = 0 then { g with marks := twL g.marks } else gzG
theorem tinv_end {g : Ga} {i : Nat} {acc : List Mk} (h : TInv g i acc) (hi : g.marks.length ≤ i) : twL g.marks = acc := by
  obtain ⟨h1, h2, h3, h4⟩ := h
  cases i with
  | zero =>
    rw [h3 rfl]
    have : g.marks = [] := List.eq_nil_of_length_eq_zero (by omega)
    rw [this]; rfl
  | succ j =>
    obtain ⟨o, a, -, -, k⟩ := h4 j rfl
    rw [k, List.drop_eq_nil_of_le hi]; rfl
def PInv (g : Ga) (i : Nat) (acc : List Mk) : Prop := i ≤ g.marks.length ∧ acc.length ≤ 6 * i ∧ (i = g.marks.length → acc = twL g.marks) ∧ ∀ a, g.marks[i]? = some a → twL g.marks = twGo (acc ++ [a]) a (g.marks.drop (i + 1))
theorem pinv_zero (g : Ga) : PInv g 0 [] := by
  refine ⟨by omega, by simp, fun h => ?_, fun a ha => ?_⟩
  · have : g.marks = [] := List.eq_nil_of_length_eq_zero (by omega)
    rw [this]; rfl
  · have e := drop_of ha
    rw [List.drop_zero] at e
    rw [e]; rfl
theorem pinv_step {g : Ga} {i : Nat} {acc : List Mk} {a b : Mk} (h : PInv g i acc) (ha : g.marks[i]? = some a) (hb : g.marks[i + 1]? = some b) : PInv g (i + 1) (mids (acc ++ [a]) a b 5) := by
  have := lt_of_some hb
  obtain ⟨h1, h2, h3, h4⟩ := h
  have hl := mids_len (acc := acc ++ [a]) (a := a) (b := b) 5
  refine ⟨by omega, by simp at hl; omega, fun h => by omega, fun x hx => ?_⟩
  rw [hb] at hx; cases hx
  rw [h4 a ha, drop_of hb, twGo]
theorem pinv_last {g : Ga} {i : Nat} {acc : List Mk} {a : Mk} (h : PInv g i acc) (ha : g.marks[i]? = some a) (hb : i + 1 = g.marks.length) : PInv g (i + 1) (acc ++ [a]) := by
  obtain ⟨h1, h2, h3, h4⟩ := h
  refine ⟨by omega, by simp; omega, fun _ => ?_, fun x hx => ?_⟩
  · rw [h4 a ha, List.drop_eq_nil_of_le (by omega)]; rfl
  · have := lt_of_some hx; omega
theorem part_ofR {k : Nat} (h : k < 5) : ∃ p : Int, [D.int .i64 0, D.int .i64 1, D.int .i64 3, D.int .i64 6, D.int .i64 9, D.int .i64 11][((k : Int) + 1).toNat]? = some (.int .i64 p) ∧ midL[k]? = some ((k : Int) + 1, p) ∧ 1 ≤ p ∧ p ≤ 11 := by
  have : k = 0 ∨ k = 1 ∨ k = 2 ∨ k = 3 ∨ k = 4 := by omega
  rcases this with rfl | rfl | rfl | rfl | rfl <;> exact ⟨_, rfl, rfl, by omega, by omega⟩
theorem asc_at {g : Ga} (hG : Good g) {i : Nat} {a b : Mk} (ha : g.marks[i]? = some a) (hb : g.marks[i + 1]? = some b) : a.m < b.m := by
  have := (List.pairwise_iff_getElem.1 hG.asc) i (i + 1) (lt_of_some ha) (lt_of_some hb) (by omega)
  rw [(List.getElem?_eq_some_iff.1 ha).2, (List.getElem?_eq_some_iff.1 hb).2] at this
  exact this
end Go.Proofs.Try
