/- Loops whose head names parts of slices, too. -/
import Derived.Test.YticnipadahihhaaVmNm
namespace Go.Vm
def rnOv (σ : St) : List (Nat × AV) → List (Nat × Option Nat)
  | [] => []
  | (t, v) :: r => match v with
    | .own b _ _ => match σ.get t with
      | .own b' _ _ => (b, some b') :: rnOv σ r
      | .nil _ => (b, none) :: rnOv σ r
      | _ => rnOv σ r
    | .view b _ _ _ => match σ.get t with
      | .view b' _ _ _ => (b, some b') :: rnOv σ r
      | _ => rnOv σ r
    | .ptr b _ => match σ.get t with
      | .ptr b' _ => (b, some b') :: rnOv σ r
      | _ => rnOv σ r
    | .mp b => match σ.get t with
      | .mp b' => (b, some b') :: rnOv σ r
      | _ => rnOv σ r
    | _ => rnOv σ r
def dropOv (σ : St) : List (Nat × AV) → List Nat
  | [] => []
  | (t, v) :: r => match v with
    | .own b _ _ => match σ.get t with
      | .own b' _ _ => match Nat.beq b b' with
        | true => dropOv σ r
        | false => b' :: dropOv σ r
      | _ => dropOv σ r
    | .view b _ _ _ => match σ.get t with
      | .view b' _ _ _ => match Nat.beq b b' with
        | true => dropOv σ r
        | false => b' :: dropOv σ r
      | _ => dropOv σ r
    | _ => dropOv σ r
theorem LoopK.o3 {W : (Ex → St → Prop) → St → Prop} {K : Ex → St → Prop} {σ : St} {m : Nat} {ι : Type} (I : ι → Prop) (ch : ι → List (Nat × AV)) (chb : ι → List (Nat × Bx)) (μ : ι → Nat) (i0 : ι)
    (hi0 : I i0) (h0 : Le σ (ovr m (dropOv σ (ch i0)) σ (ch i0) (chb i0)) (rnOv σ (ch i0) ++ rnBx σ (chb i0)))
    (round : ∀ i, I i → ovrK m (dropOv σ (ch i0)) σ (ch i) (chb i) (W (fun e σ' => match e with
      | .normal => Again I (fun i => ovr m (dropOv σ (ch i0)) σ (ch i) (chb i)) (fun i' => μ i' < μ i) σ'
      | e => K e σ'))) : LoopK W K σ m :=
  .mk I (fun i => ovr m (dropOv σ (ch i0)) σ (ch i) (chb i)) μ i0 _ hi0 h0 fun i hi => by
    have := round i hi
    rw [ovrK_eq] at this
    exact this
theorem Again.av {ι : Type} {I : ι → Prop} {m : Nat} {db : List Nat} {σ0 σ : St} {ch : ι → List (Nat × AV)} {chb : ι → List (Nat × Bx)} {less : ι → Prop} (i' : ι) (hi : I i') (hm : less i')
    (hl : Le σ (ovr m db σ0 (ch i') (chb i')) (rnOv σ (ch i') ++ rnBx σ (chb i'))) : Again I (fun i => ovr m db σ0 (ch i) (chb i)) less σ := .mk i' _ hi hm hl
theorem view_congr {b sz lo hi lo' hi' : Nat} (h : lo = lo') (h' : hi = hi') : AV.view b sz lo hi = AV.view b sz lo' hi' := by rw [h, h']
theorem some_inj {α : Type} {a b : α} (h : a = b) : some a = some b := by rw [h]
end Go.Vm
