/- Loops: the state at a loop's head, most of it kept from the state before. -/
import Derived.Test.YticnipadahihhaaVmV
namespace Go.Vm

def hasK {α : Type} : List (Nat × α) → Nat → Bool
  | [], _ => false
  | (k, _) :: r, j => match Nat.beq k j with
    | true => true
    | false => hasK r j
def anyM (db : List Nat) : List Nat → Bool
  | [] => false
  | b :: r => match memN b db with
    | true => true
    | false => anyM db r
def okV (db : List Nat) : AV → Bool
  | .d _ => true
  | .junk => false
  | .undef => false
  | .nil _ => true
  | .sub _ _ _ => false
  | .mptr _ _ _ _ => false
  | .mp b => match memN b db with
    | true => false
    | false => true
  | .view b _ _ _ => match memN b db with
    | true => false
    | false => true
  | .tup _ => false
  | .agg cs => match anyM db (AV.mensL cs), cs.all AV.one with
    | false, true => true
    | _, _ => false
  | .fnv _ cs => match anyM db (capMens cs) with
    | true => false
    | false => true
  | .ptr b _ => match memN b db with
    | true => false
    | false => true
  | .eptr b _ _ _ => match memN b db with
    | true => false
    | false => true
  | .sptr b _ _ _ => match memN b db with
    | true => false
    | false => true
  | .own b _ _ => match memN b db with
    | true => false
    | false => true
def keepT (m : Nat) (db : List Nat) (ch : List (Nat × AV)) (t : Nat) (v : AV) : Bool := match bitM m t with
  | true => false
  | false => match hasK ch t with
    | true => false
    | false => okV db v
def keepB (db : List Nat) (ch : List (Nat × Bx)) (b : Nat) : Bool := match memN b db with
  | true => false
  | false => match hasK ch b with
    | true => false
    | false => true
def fltT (m : Nat) (db : List Nat) (ch : List (Nat × AV)) : List (Nat × AV) → List (Nat × AV)
  | [] => []
  | (t, v) :: r => match keepT m db ch t v with
    | true => (t, v) :: fltT m db ch r
    | false => fltT m db ch r
def fltTK {β : Type} (m : Nat) (db : List Nat) (ch : List (Nat × AV)) : List (Nat × AV) → (List (Nat × AV) → β) → β
  | [], k => k []
  | (t, v) :: r, k => match keepT m db ch t v with
    | true => fltTK m db ch r fun r' => k ((t, v) :: r')
    | false => fltTK m db ch r k
def fltB (db : List Nat) (ch : List (Nat × Bx)) : List (Nat × Bx) → List (Nat × Bx)
  | [] => []
  | (t, v) :: r => match keepB db ch t with
    | true => (t, v) :: fltB db ch r
    | false => fltB db ch r
def fltBK {β : Type} (db : List Nat) (ch : List (Nat × Bx)) : List (Nat × Bx) → (List (Nat × Bx) → β) → β
  | [], k => k []
  | (t, v) :: r, k => match keepB db ch t with
    | true => fltBK db ch r fun r' => k ((t, v) :: r')
    | false => fltBK db ch r k
def appK {α β : Type} : List α → List α → (List α → β) → β
  | [], l, k => k l
  | a :: r, l, k => appK r l fun l' => k (a :: l')
theorem appK_eq {α β : Type} : ∀ (a l : List α) (k : List α → β), appK a l k = k (a ++ l)
  | [], _, _ => rfl
  | _ :: r, l, _ => appK_eq r l _
theorem fltTK_eq {β : Type} (m : Nat) (db : List Nat) (ch : List (Nat × AV)) : ∀ (l : List (Nat × AV)) (k : List (Nat × AV) → β), fltTK m db ch l k = k (fltT m db ch l)
  | [], _ => rfl
  | (t, v) :: r, k => by
    simp only [fltTK, fltT]
    cases keepT m db ch t v with
    | true => exact fltTK_eq m db ch r _
    | false => exact fltTK_eq m db ch r _
theorem fltBK_eq {β : Type} (db : List Nat) (ch : List (Nat × Bx)) : ∀ (l : List (Nat × Bx)) (k : List (Nat × Bx) → β), fltBK db ch l k = k (fltB db ch l)
  | [], _ => rfl
  | (t, v) :: r, k => by
    simp only [fltBK, fltB]
    cases keepB db ch t with
    | true => exact fltBK_eq db ch r _
    | false => exact fltBK_eq db ch r _
/-- A state but for what turns: temporaries that the body writes (mask m), boxes 'db' and what mentions them are forgotten. -/
def ovr (m : Nat) (db : List Nat) (σ : St) (ch : List (Nat × AV)) (chb : List (Nat × Bx)) : St := ⟨ch ++ fltT m db ch σ.T, chb ++ fltB db chb σ.bx⟩
def ovrK (m : Nat) (db : List Nat) (σ : St) (ch : List (Nat × AV)) (chb : List (Nat × Bx)) (k : St → Prop) : Prop :=
  fltTK m db ch σ.T fun T => appK ch T fun T' => fltBK db chb σ.bx fun B => appK chb B fun B' => k ⟨T', B'⟩
theorem ovrK_eq {m : Nat} {db : List Nat} {σ : St} {ch : List (Nat × AV)} {chb : List (Nat × Bx)} {k : St → Prop} : ovrK m db σ ch chb k = k (ovr m db σ ch chb) := by
  unfold ovrK ovr
  rw [fltTK_eq, appK_eq, fltBK_eq, appK_eq]
/-- Which box stands for which: read off the slots that are named. -/
def rnOf (σ : St) : List (Nat × AV) → List (Nat × Option Nat)
  | [] => []
  | (t, v) :: r => match v with
    | .own b _ _ => match σ.get t with
      | .own b' _ _ => (b, some b') :: rnOf σ r
      | .nil _ => (b, none) :: rnOf σ r
      | _ => rnOf σ r
    | .ptr b _ => match σ.get t with
      | .ptr b' _ => (b, some b') :: rnOf σ r
      | _ => rnOf σ r
    | .mp b => match σ.get t with
      | .mp b' => (b, some b') :: rnOf σ r
      | _ => rnOf σ r
    | _ => rnOf σ r
/-- .. and off the variables that are named. -/
def rnPair : List AV → List AV → List (Nat × Option Nat)
  | u :: us, v :: vs => match v with
    | .own b _ _ => match u with
      | .own b' _ _ => (b, some b') :: rnPair us vs
      | .nil _ => (b, none) :: rnPair us vs
      | _ => rnPair us vs
    | _ => rnPair us vs
  | _, _ => []
def rnBx (σ : St) : List (Nat × Bx) → List (Nat × Option Nat)
  | [] => []
  | (b, x) :: r => match x with
    | .var cs _ => match lk σ.bx b with
      | some (.var cs' _) => rnPair cs' cs ++ rnBx σ r
      | _ => rnBx σ r
    | _ => rnBx σ r
theorem LoopK.ov {W : (Ex → St → Prop) → St → Prop} {K : Ex → St → Prop} {σ : St} {m : Nat} {ι : Type} (I : ι → Prop) (ch : ι → List (Nat × AV)) (db : List Nat) (chb : ι → List (Nat × Bx)) (μ : ι → Nat) (i0 : ι)
    (hi0 : I i0) (h0 : Le σ (ovr m db σ (ch i0) (chb i0)) (rnOf σ (ch i0) ++ rnBx σ (chb i0)))
    (round : ∀ i, I i → ovrK m db σ (ch i) (chb i) (W (fun e σ' => match e with
      | .normal => Again I (fun i => ovr m db σ (ch i) (chb i)) (fun i' => μ i' < μ i) σ'
      | e => K e σ'))) : LoopK W K σ m :=
  .mk I (fun i => ovr m db σ (ch i) (chb i)) μ i0 _ hi0 h0 fun i hi => by
    have := round i hi
    rw [ovrK_eq] at this
    exact this
theorem Again.au {ι : Type} {I : ι → Prop} {m : Nat} {db : List Nat} {σ0 σ : St} {ch : ι → List (Nat × AV)} {chb : ι → List (Nat × Bx)} {less : ι → Prop} (i' : ι) (hi : I i') (hm : less i')
    (hl : Le σ (ovr m db σ0 (ch i') (chb i')) (rnOf σ (ch i') ++ rnBx σ (chb i'))) : Again I (fun i => ovr m db σ0 (ch i) (chb i)) less σ := .mk i' _ hi hm hl
theorem map_snoc {α : Type} {f : α → D} {l : List α} {a : α} {z : D} : l.map f ++ f a :: List.replicate 0 z = (l ++ [a]).map f := by simp
theorem own_congr {b sz n n' : Nat} (h : n = n') : AV.own b sz n = AV.own b sz n' := by rw [h]
theorem int_congr {k : IntKind} {n n' : Int} (h : n = n') : AV.d (.int k n) = AV.d (.int k n') := by rw [h]
theorem nil_or_snoc {α : Type} (l : List α) : l = [] ∨ ∃ r a, l = r ++ [a] := by
  rcases List.eq_nil_or_concat l with h | ⟨r, a, h⟩
  · exact .inl h
  · exact .inr ⟨r, a, by rw [h, List.concat_eq_append]⟩
end Go.Vm
