/- More little lemmas for walking: loops that drop a slice's old name; quotients of numbers that are not negative. -/
import Derived.Test.YticnipadahihhaaVmX
namespace Go.Vm
/-- The old names of what is named anew. -/
def dropOf (σ : St) : List (Nat × AV) → List Nat
  | [] => []
  | (t, v) :: r => match v with
    | .own b _ _ => match σ.get t with
      | .own b' _ _ => match Nat.beq b b' with
        | true => dropOf σ r
        | false => b' :: dropOf σ r
      | _ => dropOf σ r
    | _ => dropOf σ r
theorem LoopK.o2 {W : (Ex → St → Prop) → St → Prop} {K : Ex → St → Prop} {σ : St} {m : Nat} {ι : Type} (I : ι → Prop) (ch : ι → List (Nat × AV)) (chb : ι → List (Nat × Bx)) (μ : ι → Nat) (i0 : ι)
    (hi0 : I i0) (h0 : Le σ (ovr m (dropOf σ (ch i0)) σ (ch i0) (chb i0)) (rnOf σ (ch i0) ++ rnBx σ (chb i0)))
    (round : ∀ i, I i → ovrK m (dropOf σ (ch i0)) σ (ch i) (chb i) (W (fun e σ' => match e with
      | .normal => Again I (fun i => ovr m (dropOf σ (ch i0)) σ (ch i) (chb i)) (fun i' => μ i' < μ i) σ'
      | e => K e σ'))) : LoopK W K σ m := LoopK.ov I ch _ chb μ i0 hi0 h0 round
theorem Wr.quo {a b : Int} {k : Int → Prop} (ha : 0 ≤ a) (hb : 0 < b) (hm : a ≤ 9223372036854775807) (r : k (a / b)) : Wr .i64 (a.tdiv b) k := by
  have e : a.tdiv b = a / b := Int.tdiv_eq_ediv_of_nonneg ha
  have h1 : 0 ≤ a / b := Int.ediv_nonneg ha (by omega)
  have h2 : a / b ≤ a := Int.ediv_le_self b ha
  exact ⟨a / b, by rw [e]; exact wrap_in (by omega), r⟩
theorem snoc_get {α : Type} (o : List α) (a : α) : (o ++ [a])[o.length]? = some a := by simp
theorem lt_of_some {α : Type} {l : List α} {i : Nat} {a : α} (h : l[i]? = some a) : i < l.length := (List.getElem?_eq_some_iff.1 h).1
end Go.Vm
