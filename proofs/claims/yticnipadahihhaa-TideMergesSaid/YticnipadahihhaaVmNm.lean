/- Contracts under other names of the boxes: the usual shapes. -/
import Derived.Test.YticnipadahihhaaVmRn
import Derived.Test.YticnipadahihhaaVmY
namespace Go.Vm
variable {P : Program} {f : FuncId}
theorem rnA_d (m : List (Nat × Nat)) (xs : List D) : rnA m (xs.map .d) = xs.map .d := by
  rw [rnA_map, List.map_map]; rfl
theorem wfA_d : ∀ xs : List D, wfA (xs.map .d) = true
  | [] => rfl
  | _ :: xs => wfA_d xs
theorem okXs_d (bx : List (Nat × Bx)) : ∀ xs : List D, okXs bx (xs.map .d) = true
  | [] => rfl
  | _ :: xs => okXs_d bx xs
theorem beqN (b : Nat) : Nat.beq b b = true := Nat.beq_refl b
/-- A row is handed over, and turned. -/
theorem EvX.at1 {k n et et' k' : Nat} {es es' : List D} {fz fz' : Bool} {xs : List D} {v : D} (h : EvX P f (.own 1000 k n :: xs.map .d) [(1000, .row et k es fz)] (.d v) [(1000, .row et' k' es' fz')]) (b : Nat) :
    EvX P f (.own b k n :: xs.map .d) [(b, .row et k es fz)] (.d v) [(b, .row et' k' es' fz')] := by
  have := h.rn [(1000, b)] (by simp [injN, injN.chk, namesB, rnm, lk, wfA, AV.wf, wfA_d, wfB, okXs, okXs_d, AV.okIn, AV.mens, okN, hasB, okCl, Bx.okIn])
  rw [rnA, rnA_d] at this
  exact this
theorem EvX.at1t {k n et et' k' : Nat} {es es' : List D} {fz fz' : Bool} {xs : List D} (h : EvX P f (.own 1000 k n :: xs.map .d) [(1000, .row et k es fz)] (.tup []) [(1000, .row et' k' es' fz')]) (b : Nat) :
    EvX P f (.own b k n :: xs.map .d) [(b, .row et k es fz)] (.tup []) [(b, .row et' k' es' fz')] := by
  have := h.rn [(1000, b)] (by simp [injN, injN.chk, namesB, rnm, lk, wfA, AV.wf, wfT, wfA_d, wfB, okXs, okXs_d, AV.okIn, AV.mens, okN, hasB, okCl, Bx.okIn])
  rw [rnA, rnA_d] at this
  exact this
/-- .. and handed back. -/
theorem EvX.at1o {k n et et' k' k2 n2 : Nat} {es es' : List D} {fz fz' : Bool} {xs : List D} (h : EvX P f (.own 1000 k n :: xs.map .d) [(1000, .row et k es fz)] (.own 1000 k2 n2) [(1000, .row et' k' es' fz')]) (b : Nat) :
    EvX P f (.own b k n :: xs.map .d) [(b, .row et k es fz)] (.own b k2 n2) [(b, .row et' k' es' fz')] := by
  have := h.rn [(1000, b)] (by simp [injN, injN.chk, namesB, rnm, lk, wfA, AV.wf, wfA_d, wfB, okXs, okXs_d, AV.okIn, AV.mens, okN, hasB, okCl, Bx.okIn])
  rw [rnA, rnA_d] at this
  exact this
/-- A new row is handed back. -/
theorem EvX.new1 {k n et : Nat} {es : List D} {fz : Bool} {xs : List D} (h : EvX P f (xs.map .d) [] (.own 9 k n) [(9, .row et k es fz)]) (b : Nat) : EvX P f (xs.map .d) [] (.own b k n) [(b, .row et k es fz)] := by
  have := h.rn [(9, b)] (by simp [injN, injN.chk, namesB, wfA, AV.wf, wfA_d, wfB, okXs_d, okCl])
  rw [rnA_d] at this
  exact this
/-- A row is handed over; another name of it is handed back. -/
theorem EvX.turn1 {k n et et' k' : Nat} {n2 : Nat} {es es' : List D} {fz fz' : Bool} {xs : List D} (h : EvX P f (.own 1000 k n :: xs.map .d) [(1000, .row et k es fz)] (.own 9 k' n2) [(1000, .gone), (9, .row et' k' es' fz')]) (b c : Nat) (hbc : Nat.beq c b = false) :
    EvX P f (.own b k n :: xs.map .d) [(b, .row et k es fz)] (.own c k' n2) [(b, .gone), (c, .row et' k' es' fz')] := by
  have := h.rn [(1000, b), (9, c)] (by simp [injN, injN.chk, namesB, rnm, lk, wfA, AV.wf, wfA_d, wfB, okXs, okXs_d, AV.okIn, AV.mens, okN, hasB, okCl, Bx.okIn, hbc])
  rw [rnA, rnA_d] at this
  exact this
/-- A new map is handed back. -/
theorem EvX.newM {kt et : Nat} {kd : TypeDesc} {es : List (D × D)} {xs : List D} (h : EvX P f (xs.map .d) [] (.mp 9) [(9, .map kt et kd es)]) (b : Nat) : EvX P f (xs.map .d) [] (.mp b) [(b, .map kt et kd es)] := by
  have := h.rn [(9, b)] (by simp [injN, injN.chk, namesB, wfA, AV.wf, wfA_d, wfB, okXs_d, okCl])
  rw [rnA_d] at this
  exact this
end Go.Vm
