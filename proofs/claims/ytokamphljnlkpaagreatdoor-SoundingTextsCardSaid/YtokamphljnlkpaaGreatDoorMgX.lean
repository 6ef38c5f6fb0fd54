/- Texts VmRf VmRo VmRg VmRh, joined. -/
import Derived.RangeFuncLeaves
import Derived.RangeFuncBox
import Derived.RangeFuncKeeps
import Derived.RangeFuncFrom
import Derived.Test.YtokamphljnlkpaaGreatDoorMgH
import Derived.OrdersIn
import Derived.OwnWalkIn
import Derived.RangeFuncCalls
section
/- A range over a function whose iterator keeps state of its own in one cell (a captured variable). It names no program. -/
namespace Go.Vm
open Go.RowKit (Below)
variable {F : Fence} {n : Nat} {P : Program}
structure AbidesAt {β : Type} (b : Nat) (Vp : Value → Prop) (J : β → World → Prop) : Prop where
 new : ∀ s W W', J s W → W.grownBy W' none → J s W'
 put : ∀ s W v, Vp v → J s W → J s (W.setCell ⟨b, 0, none⟩ v)
theorem heap_setCell_ne {W : World} {b k : Nat} (v : Value) (h : k ≠ b) : (W.setCell ⟨b, 0, none⟩ v).heap[k]? = W.heap[k]? := RowKit.Below.heap_setCell W _ v k h
theorem wpIn_rangeFunc_cell {α : Type} {g : Operand} {ps : Array Tmp} {assign body : Code} {Q : Exit → Act → World → Prop} {a : Act} {w : World} (b : Nat) (Vp : Value → Prop) (hb : b < w.heap.size)
 (hro : F.round = none) (h1 : 1 ≤ n) {gf : Nat} {lb : Array Value} (hg : a.eval g = .func (.func gf) #[] lb) (hFg : F.fn gf) (eg : ∀ args w, (callFunc gf args).run P w = .ok (.enter gf args) w)
 {encs : α → Array Value} {Px : α → Prop} {Kp : World → World → Prop} {S Sp : List α → Prop} {N : Nat}
 (hseq : ∀ (l : Nat) (J Jx : List α → World → Prop) (W : World), Below w.heap.size w W → AbidesAt b Vp J → AbidesAt b Vp Jx →
   (∀ pre x W1, Px x → J pre W1 → pre.length < N → YieldAt F (n - 1 - 1) P l (encs x) W1 fun e W' =>
     (e = .returned (.bool true) ∧ J (pre ++ [x]) W' ∧ Kp W1 W') ∨ (e = .returned (.bool false) ∧ Jx (pre ++ [x]) W')) →
   J [] W →
   CallsIn F (n - 1) P gf (#[.func (.yield l) #[] #[]] ++ lb) W fun e W' => (∃ v, e = .returned v) ∧ ((∃ xs, S xs ∧ J xs W') ∨ (∃ pre, Sp pre ∧ Jx pre W')))
 (hKt : ∀ {A B C : World}, Kp A B → Kp B C → Kp A C) (hKb : ∀ (W : World) (l : Nat) (o o' : Obj), w.heap.size ≤ l → W.heap[l]? = some o → o.isCells = false → o.isWalk = false → Kp W (W.putObj l o')) (hps : ∀ x, (encs x).size = ps.size)
 (I : List α → World → Prop) (Ix : Code → List α → World → Prop) (hI : OwnFrom w.heap.size I) (hIx : ∀ c, OwnFrom w.heap.size (Ix c)) (hIb : ∀ s W v, Vp v → I s W → I s (W.setCell ⟨b, 0, none⟩ v)) (hIxb : ∀ c s W v, Vp v → Ix c s W → Ix c s (W.setCell ⟨b, 0, none⟩ v)) (h0 : I [] w) (a₁ : α → Act)
 (hassign : ∀ (l : Nat) (x : α) (W : World) (K : Act → World → Prop), K (a₁ x) W →
   assign.wpIn (F.inRound l) (n - 1 - 1) P (Exit.then K (fun _ _ _ => False)) { tmps := (ps.zip (encs x)).foldl (fun t (p, v) => t.setIfInBounds p v) a.tmps, defers := [] } W)
 (hbody : ∀ (l : Nat) (pre : List α) (x : α) (W : World), Px x → I pre W → pre.length < N → body.wpIn (F.inRound l) (n - 1 - 1) P (ownPostK Kp I Ix (pre ++ [x]) W) (a₁ x) W)
 (hdone : ∀ (D : Nat) (xs : List α) (W : World), w.heap.size ≤ D → S xs → I xs W → W.heap[D]? = some (.deferred (some [])) → Q .normal { a with defers := { target := .collected D, args := #[] } :: a.defers } W)
 (hstop : ∀ (D : Nat) (c : Code) (pre : List α) (W : World), w.heap.size ≤ D → Sp pre → Ix c pre W → W.heap[D]? = some (.deferred (some [])) → c.wpIn F n P Q { a with defers := { target := .collected D, args := #[] } :: a.defers } W) :
 (Code.rangeFunc g ps assign body).wpIn F n P Q a w := by
 refine wpIn_rangeFunc ?_
 intro fn hfn
 rw [hro]
 obtain ⟨rec, hrec⟩ : ∃ rec : LoopState → Option Code → Loop, rec = fun st pe => { state := st, pending := pe, fn, tmps := a.tmps, params := ps, assign, body, defers := w.heap.size } := ⟨_, rfl⟩
 obtain ⟨W1, hW1⟩ : ∃ W1, (w.alloc (.deferred (some []))).alloc (.loop (rec .ready none)) = W1 := ⟨_, rfl⟩
 have hL1 : W1.heap[w.heap.size + 1]? = some (.loop (rec .ready none)) := by
  rw [← hW1]; have := World.alloc_heap_new (w.alloc (.deferred (some []))) (.loop (rec .ready none)); rwa [World.size_alloc] at this
 have hK1 : W1.heap[w.heap.size]? = some (.deferred (some [])) := by
  rw [← hW1]; exact (Below.heap_alloc _ _ _ (by simp)).trans (World.alloc_heap_new w _)
 have hI1 : I [] W1 := by rw [← hW1]; exact hI.alloc _ (hI.alloc _ h0)
 have hb1 : Below w.heap.size w W1 := by
  rw [← hW1]; exact ((Below.refl _ w).alloc (Nat.le_refl _) _).alloc (by simp) _
 refine ⟨w.heap.size + 1, [{ target := .collected w.heap.size, args := #[] }], W1, { target := .fn (.func gf) lb, args := #[.func (.yield (w.heap.size + 1)) #[] #[]] }, W1, gf,
  #[.func (.yield (w.heap.size + 1)) #[] #[]] ++ lb, W1, ?_, ?_, ?_, ?_, fun _ => h1, ?_⟩
 ·rw [← hW1, hrec]; exact run_enterLoop_outer _ _ _ _ _
 ·simp only [resolve, hg]
  simp [go_sem]
 ·intro f' hf'; simp [Target.leads] at hf'; subst hf'; exact hFg
 ·simp [invoke, go_sem, eg]
 ·have hnone : ∀ {A B : World}, (∀ r, (none : Option Nat) = some r → ∃ o : Obj, A.heap[r]? = some o ∧ o.isCells = false) := fun r e => by cases e
  have nb1 : w.heap.size + 1 ≠ b := by omega
  have nb2 : w.heap.size ≠ b := by omega
  refine (hseq (w.heap.size + 1)
   (fun pre W => I pre W ∧ W.heap[w.heap.size + 1]? = some (.loop (rec .ready none)) ∧ W.heap[w.heap.size]? = some (.deferred (some [])))
   (fun pre W => ∃ c, Ix c pre W ∧ W.heap[w.heap.size + 1]? = some (.loop (rec .done (some c))) ∧ W.heap[w.heap.size]? = some (.deferred (some [])))
   W1 hb1
   ⟨fun s A B hs hg' => ⟨hI s A B none hs.1 hg' (fun r e => by cases e), (grownBy_keeps hg' (fun r e => by cases e) hs.2.1 rfl).trans hs.2.1, (grownBy_keeps hg' (fun r e => by cases e) hs.2.2 rfl).trans hs.2.2⟩,
    fun s A v hp hs => ⟨hIb s A v hp hs.1, (heap_setCell_ne v nb1).trans hs.2.1, (heap_setCell_ne v nb2).trans hs.2.2⟩⟩
   ⟨fun s A B hs hg' => by
    obtain ⟨c, hc, hl, hk⟩ := hs
    exact ⟨c, hIx c s A B none hc hg' (fun r e => by cases e), (grownBy_keeps hg' (fun r e => by cases e) hl rfl).trans hl, (grownBy_keeps hg' (fun r e => by cases e) hk rfl).trans hk⟩,
    fun s A v hp hs => by
     obtain ⟨c, hc, hl, hk⟩ := hs
     exact ⟨c, hIxb c s A v hp hc, (heap_setCell_ne v nb1).trans hl, (heap_setCell_ne v nb2).trans hk⟩⟩
   ?_ ⟨hI1, hL1, hK1⟩).mono ?_
  ·rintro pre x W hpx ⟨hi, hl, hk⟩ hlen
   have hlt : w.heap.size + 1 < W.heap.size := (Array.getElem?_eq_some_iff.1 hl).1
   have hy := run_yield (P := P) (args := encs x) hl (by rw [hrec]; exact hps x)
   rw [hrec] at hy
   refine ⟨fn, _, assign, body, hy, roundIn_of_wpIn hfn (hassign _ x W _ ⟨_, run_beginRound hl (by rw [hrec]), ?_⟩)⟩
   have hl2 : (W.putObj (w.heap.size + 1) (.loop { rec .ready none with state := .busy })).heap[w.heap.size + 1]? = some (.loop { rec .ready none with state := .busy }) := World.putObj_heap_same hlt
   have hk2 : (W.putObj (w.heap.size + 1) (.loop { rec .ready none with state := .busy })).heap[w.heap.size]? = some (.deferred (some [])) := (World.putObj_heap_other (by omega)).trans hk
   have hw2 : Kp W (W.putObj (w.heap.size + 1) (.loop { rec .ready none with state := .busy })) := hKb _ _ _ _ (by omega) hl rfl rfl
   refine wpIn_mono (hbody _ pre x _ hpx (hI.putObj _ hi (by omega) hl rfl) hlen) ?_
   have fin : ∀ (jump : Option Code) (W3 : World), KeepsOthers (W.putObj (w.heap.size + 1) (.loop { rec .ready none with state := .busy })) W3 →
    (Instr.endRound (w.heap.size + 1) jump).run P W3 = .ok (.bool jump.isNone) (W3.putObj (w.heap.size + 1) (.loop (rec (if jump.isNone then .ready else .done) jump))) ∧
    W3.heap[w.heap.size + 1]? = some (.loop { rec .ready none with state := .busy }) ∧
    (W3.putObj (w.heap.size + 1) (.loop (rec (if jump.isNone then .ready else .done) jump))).heap[w.heap.size + 1]? = some (.loop (rec (if jump.isNone then .ready else .done) jump)) ∧
    (W3.putObj (w.heap.size + 1) (.loop (rec (if jump.isNone then .ready else .done) jump))).heap[w.heap.size]? = some (.deferred (some [])) := fun jump W3 hk3 => by
    have hl3 := hk3.same _ _ hl2 rfl
    have := run_endRound (P := P) jump hl3
    rw [hrec] at this ⊢
    exact ⟨this, by rw [hrec] at hl3; exact hl3, World.putObj_heap_same (Array.getElem?_eq_some_iff.1 hl3).1, (World.putObj_heap_other (by omega)).trans (hk3.same _ _ hk2 rfl)⟩
   rintro e a3 W3 hp
   cases e with
   | normal =>
    obtain ⟨hk3, hkp3, hi3⟩ := hp
    obtain ⟨hr, hl3, hl4, hk4⟩ := fin none W3 hk3
    exact ⟨_, _, hr, .inl ⟨rfl, ⟨hI.putObj _ hi3 (by omega) hl3 rfl, hl4, hk4⟩, hKt (hKt hw2 hkp3) (hKb _ _ _ _ (by omega) hl3 rfl rfl)⟩⟩
   | ret =>
    obtain ⟨hk3, hi3⟩ := hp
    obtain ⟨hr, hl3, hl4, hk4⟩ := fin (some .ret) W3 hk3
    exact ⟨_, _, hr, .inr ⟨rfl, .ret, (hIx _).putObj _ hi3 (by omega) hl3 rfl, hl4, hk4⟩⟩
   | exit id =>
    obtain ⟨hk3, hi3⟩ := hp
    obtain ⟨hr, hl3, hl4, hk4⟩ := fin (some (.exit id)) W3 hk3
    exact ⟨_, _, hr, .inr ⟨rfl, .exit id, (hIx _).putObj _ hi3 (by omega) hl3 rfl, hl4, hk4⟩⟩
   | goto t =>
    obtain ⟨hk3, hi3⟩ := hp
    obtain ⟨hr, hl3, hl4, hk4⟩ := fin (some (.goto t)) W3 hk3
    exact ⟨_, _, hr, .inr ⟨rfl, .goto t, (hIx _).putObj _ hi3 (by omega) hl3 rfl, hl4, hk4⟩⟩
   | panic ch => exact hp.elim
   | outgrown => exact hp.elim
  ·rintro e W2 ⟨⟨v, rfl⟩, (⟨xs, hS, hi, hl, hk⟩ | ⟨pre, hSp, c, hi, hl, hk⟩)⟩
   ·exact ⟨none, _, by have := run_endLoop (P := P) hl (by rw [hrec]; simp); rw [hrec] at this; exact this, hdone _ xs _ (Nat.le_refl _) hS (hI.putObj _ hi (by omega) hl rfl) ((World.putObj_heap_other (by omega)).trans hk)⟩
   ·exact ⟨some c, _, by have := run_endLoop (P := P) hl (by rw [hrec]; simp); rw [hrec] at this; exact this, hstop _ c pre _ (Nat.le_refl _) hSp ((hIx c).putObj _ hi (by omega) hl rfl) ((World.putObj_heap_other (by omega)).trans hk)⟩
end Go.Vm
end

section
/- The evaluator's word within a fence: in a round of a range over a function, and behind such a loop (the deferred calls' mark stands in the activation). -/
namespace Go.Vm
open Go.RowKit (Below)
def Fr (r : Option Nat) : Fence := { Fence.wide with round := r }
def strip (a : Act) : Act := { a with defers := [] }
theorem strip_put (a : Act) (d : Option Tmp) (v : Value) : (strip a).put d v = strip (a.put d v) := by cases d <;> rfl
theorem put_defers (a : Act) (d : Option Tmp) (v : Value) : (a.put d v).defers = a.defers := by cases d <;> rfl
theorem strip_eval (a : Act) : (strip a).eval = a.eval := rfl
section
variable {P : Program} {r : Option Nat} {n : Nat}
theorem calls_in {f : FuncId} {args : Array Value} {w : World} {R : Ending → World → Prop} (h : Calls P f args w R) : CallsIn (Fr r) n P f args w R := callsIn_wide.2 h
theorem rows_in {f : String} {args : Array Value} {w : World} {R : Value → World → Prop} (h : Rows P f args w R) : RowsIn (Fr r) n P f args w R := fun c cs _ => by
 obtain ⟨v, w', h1, h2⟩ := h c cs
 exact ⟨v, w', h1, (stepsIn_wide (P := P)).2 h2⟩
theorem op_df {o : Oper} {a : Act} {w : World} {K : Act → World → Prop} {Q : Exit → Act → World → Prop} (h : o.wp P a w K Q) (hK : ∀ a' w', K a' w' → a'.defers = []) (hq : ∀ e a' w', Q e a' w' → e = .normal) : a.defers = [] := by
 unfold Oper.wp at h
 generalize (execOp a.eval o).run P w = x at h
 cases x with
 | ok x w' =>
  cases x with
  | value v => exact (put_defers a o.dst v).symm.trans (hK _ _ h)
  | skip => exact (put_defers a o.dst undef).symm.trans (hK _ _ h)
  | defer d => have := (put_defers _ o.dst undef).symm.trans (hK _ _ h); cases this
  | enter f args =>
   obtain ⟨e, w'', fr, he, -⟩ := h []
   cases e with
   | returned v => exact (put_defers a o.dst v).symm.trans (hK _ _ he)
   | panicked ch => exact absurd (hq _ _ _ he) (by simp)
   | outgrown => obtain ⟨a0, w0, he⟩ := he; exact absurd (hq _ _ _ he) (by simp)
  | row f args =>
   obtain ⟨v, w'', he, -⟩ := h default []
   exact (put_defers a o.dst v).symm.trans (hK _ _ he)
  | _ => exact h.elim
 | halt x w' =>
  cases x with
  | panic v => exact absurd (hq _ _ _ h) (by simp)
  | _ => exact h.elim
theorem op_in {o : Oper} {a : Act} {w : World} {K0 K : Act → World → Prop} {Q0 Q : Exit → Act → World → Prop} (h : o.wp P (strip a) w K0 Q0) (hd : ∀ c, o.op ≠ .defer c)
 (hk : ∀ v w', K0 (strip (a.put o.dst v)) w' → K (a.put o.dst v) w') (hK : ∀ a' w', K0 a' w' → a'.defers = []) (hq : ∀ e a' w', Q0 e a' w' → e = .normal) : o.wpIn (Fr r) n P a w K Q := by
 unfold Oper.wpIn
 refine ⟨fun _ _ => trivial, ?_⟩
 rw [Oper.semAt_plain _ _ _ hd]
 unfold Oper.wp at h
 rw [strip_eval] at h
 generalize (execOp a.eval o).run P w = x at h ⊢
 cases x with
 | ok x w' =>
  cases x with
  | value v => exact hk _ _ (by rw [← strip_put]; exact h)
  | skip => exact hk _ _ (by rw [← strip_put]; exact h)
  | defer d => have := (put_defers _ o.dst undef).symm.trans (hK _ _ h); cases this
  | enter f args =>
   refine ⟨fun hx => (by cases hx), calls_in (Calls.mono h fun e w'' he => ?_)⟩
   cases e with
   | returned v => exact hk _ _ (by rw [← strip_put]; exact he)
   | panicked ch => exact absurd (hq _ _ _ he) (by simp)
   | outgrown => obtain ⟨a0, w0, he⟩ := he; exact absurd (hq _ _ _ he) (by simp)
  | row f args => exact ⟨fun hx => (by cases hx), rows_in (Rows.mono h fun v w'' he => hk _ _ (by rw [← strip_put]; exact he))⟩
  | _ => exact h.elim
 | halt x w' =>
  cases x with
  | panic v => exact absurd (hq _ _ _ h) (by simp)
  | _ => exact h.elim
def calmOp (D : Nat → Bool) (o : Oper) : Bool := (match o.op with
 | .defer _ => false
 | _ => true) && (match o.dst with
 | some d => D d
 | none => true)
theorem calmOp_spec {D : Nat → Bool} {o : Oper} (h : calmOp D o = true) : (∀ c, o.op ≠ .defer c) ∧ ∀ d, o.dst = some d → D d = true := by
 rw [calmOp, Bool.and_eq_true] at h
 refine ⟨fun c e => ?_, fun d e => ?_⟩
 ·rw [e] at h; cases h.1
 ·rw [e] at h; exact h.2
def calmOps (D : Nat → Bool) (ops : Array Oper) : Bool := ops.toList.all (calmOp D)
theorem calmOps_at {D : Nat → Bool} {ops : Array Oper} (h : calmOps D ops = true) {i : Nat} {o : Oper} (ho : ops[i]? = some o) : (∀ c, o.op ≠ .defer c) ∧ ∀ d, o.dst = some d → D d = true :=
 calmOp_spec (List.all_eq_true.1 h o (List.mem_of_getElem? (i := i) (by rw [Array.getElem?_toList]; exact ho)))
structure Keep (ds : List Deferred) (D : Nat → Bool) (tm : Array Value) (a : Act) : Prop where
 df : a.defers = ds
 same : ∀ t, D t = false → a.tmps.getD t undef = tm.getD t undef
theorem Keep.put {ds : List Deferred} {D : Nat → Bool} {tm : Array Value} {a : Act} (h : Keep ds D tm a) {d : Option Tmp} (hd : ∀ t, d = some t → D t = true) (v : Value) : Keep ds D tm (a.put d v) := by
 refine ⟨(put_defers _ _ _).trans h.df, fun t ht => ?_⟩
 cases d with
 | none => exact h.same t ht
 | some x =>
  have hx : x ≠ t := fun e => by
   subst e
   rw [hd x rfl] at ht
   cases ht
  refine Eq.trans ?_ (h.same t ht)
  show (a.tmps.setIfInBounds x v).getD t undef = _
  rw [Array.getD_eq_getD_getElem?, Array.getElem?_setIfInBounds_ne hx, ← Array.getD_eq_getD_getElem?]
variable {ops : Array Oper} {Q : Exit → Act → World → Prop} {ds : List Deferred} {D : Nat → Bool} {tm : Array Value}
def bare (ds : List Deferred) (D : Nat → Bool) (tm : Array Value) (Q : Exit → Act → World → Prop) : Exit → Act → World → Prop
 | .normal, a, w => a.defers = [] ∧ (Keep ds D tm { a with defers := ds } → Q .normal { a with defers := ds } w)
 | _, _, _ => False
theorem strip_with {a : Act} (h : a.defers = ds) : { strip a with defers := ds } = a := by cases a; cases h; rfl
theorem bare_n {e : Exit} {a : Act} {w : World} (h : bare ds D tm Q e a w) : e = .normal := by
 cases e <;> first | rfl | exact h.elim
theorem bare_out : ¬ LetsOut (bare ds D tm Q) := by
 rintro ⟨a, w, h⟩
 exact h
theorem wpOp_df {i : Nat} {K : Act → World → Prop} {a : Act} {w : World} (h : wpOp P ops (bare ds D tm Q) i K a w) (hK : ∀ a' w', K a' w' → a'.defers = []) : a.defers = [] := by
 unfold wpOp at h
 split at h
 ·exact hK _ _ h
 ·split at h
  ·rcases h with h | h
   ·exact op_df h hK fun e a' w' h => bare_n h
   ·exact absurd h.2 bare_out
  ·exact (put_defers a _ undef).symm.trans (hK _ _ h)
theorem wpOps_df : ∀ (is : List Nat) {a : Act} {w : World}, wpOps P ops (bare ds D tm Q) is a w → a.defers = []
 | [], a, w, h => h.1
 | i :: is, a, w, h => by
  rw [wpOps_cons] at h
  exact wpOp_df h fun a' w' h' => wpOps_df is h'
theorem wpAny_df {md : Region.Mode} : ∀ (fuel : Nat) (listed : Array Bool) {a : Act} {w : World}, wpAny P md ops (bare ds D tm Q) fuel listed a w → a.defers = []
 | 0, listed, a, w, h => h.2.1
 | fuel + 1, listed, a, w, h => by
  cases hr : Region.ready md ops listed with
  | nil => exact (h.1 hr).1
  | cons i is => exact wpOp_df (h.2 i (by rw [hr]; exact List.mem_cons_self)) fun a' w' h' => wpAny_df fuel _ h'
theorem wpOp_in (hc : calmOps D ops = true) {i : Nat} {K0 K : Act → World → Prop} {a : Act} {w : World} (ha : Keep ds D tm a) (h : wpOp P ops (bare ds D tm Q) i K0 (strip a) w)
 (hk : ∀ a' w', Keep ds D tm a' → K0 (strip a') w' → K a' w') (hK : ∀ a' w', K0 a' w' → a'.defers = []) : wpOpIn (Fr r) n P ops Q i K a w := by
 unfold wpOp at h
 unfold wpOpIn
 cases ho : ops[i]? with
 | none => rw [ho] at h; exact hk _ _ ha h
 | some o =>
  rw [ho] at h
  simp only at h ⊢
  have ht : (strip a).tmps = a.tmps := rfl
  rw [ht] at h
  split
  ·rename_i hw
   rw [if_pos hw] at h
   rcases h with h | h
   ·exact op_in h (calmOps_at hc ho).1 (fun v w' h => hk _ w' (ha.put (calmOps_at hc ho).2 v) h) hK fun e a' w' h => bare_n h
   ·exact absurd h.2 bare_out
  ·rename_i hw
   rw [if_neg hw] at h
   exact ⟨fun _ _ => trivial, hk _ _ (ha.put (calmOps_at hc ho).2 undef) (by rw [← strip_put]; exact h)⟩
theorem wpOps_in (hc : calmOps D ops = true) : ∀ (is : List Nat) {a : Act} {w : World}, Keep ds D tm a → wpOps P ops (bare ds D tm Q) is (strip a) w → wpOpsIn (Fr r) n P ops Q is a w
 | [], a, w, ha, h => by
  have h : Keep ds D tm { strip a with defers := ds } → Q .normal { strip a with defers := ds } w := h.2
  rw [strip_with ha.df] at h
  exact h ha
 | i :: is, a, w, ha, h => by
  rw [wpOpsIn_cons]
  rw [wpOps_cons] at h
  exact wpOp_in hc ha h (fun a' w' e h' => wpOps_in hc is e h') fun a' w' h' => wpOps_df is h'
theorem wpAny_in (hc : calmOps D ops = true) {md : Region.Mode} : ∀ (fuel : Nat) (listed : Array Bool) {a : Act} {w : World}, Keep ds D tm a → wpAny P md ops (bare ds D tm Q) fuel listed (strip a) w → wpAnyIn (Fr r) n P md ops Q fuel listed a w
 | 0, listed, a, w, ha, h => by
  obtain ⟨h1, -, h2⟩ := h
  have h2 : Keep ds D tm { strip a with defers := ds } → Q .normal { strip a with defers := ds } w := h2
  rw [strip_with ha.df] at h2
  exact ⟨h1, h2 ha⟩
 | fuel + 1, listed, a, w, ha, h => by
  obtain ⟨h1, h2⟩ := h
  refine ⟨fun e => ?_, fun i hi => wpOp_in hc ha (h2 i hi) (fun a' w' e h' => wpAny_in hc fuel _ e h') fun a' w' h' => wpAny_df fuel _ h'⟩
  have h1 : Keep ds D tm { strip a with defers := ds } → Q .normal { strip a with defers := ds } w := (h1 e).2
  rw [strip_with ha.df] at h1
  exact h1 ha
end
section
variable {P : Program} {S : Tys} {N : Nat} {w0 : Ent} {A0 : Sta}
theorem regD_any (hS : TysOk P S) {ops : Array Oper} {Q : Exit → Act → World → Prop} {σ : St} {K : St → Prop} {a : Act} {w : World}
 (h : regD P S N ops.toList σ K) (hr : Rel w0 A0 N σ a w) (hK : ∀ σ' a' w', Rel w0 A0 N σ' a' w' → K σ' → Q .normal a' w') : wpAny P .any ops Q ops.size (Array.replicate ops.size false) a { w with drawn := w.drawn + 1 } := by
 unfold regD at h
 split at h
 ·rename_i hback
  rw [reachK_eq] at h
  obtain ⟨σ', ls, h1, h2, h3, -, h4⟩ := stepsD_run ops.toList 0 h
  obtain ⟨L, A, hI⟩ := hr
  refine (any_sound hS (cl := fun i j => bitM (getM (reachF 0 ops.toList []) i) j = true) (T' := σ'.get) (B' := lk σ'.bx) ?_ ?_ (fun L A a' w' hI' => hK σ' a' w' ⟨L, A, hI'⟩ h4)
   ops.size _ (zip3 0 ops.toList ls) (by simp) (by rw [zip3_len h1]; simp) (fun i => ?_) (fun p hp => ?_) ?_ h3 ?_ h2 (hI.world ⟨⟨rfl, rfl, rfl, Nat.le_refl _, fun _ _ => rfl⟩, trivial⟩ (fun _ _ h => h) hI.Aok (fun _ _ h => .inl h)))
  ·intro listed hc i o ho hons j hj
   unfold getM at hj
   cases hcn : lk (reachF 0 ops.toList []) i with
   | none => rw [hcn] at hj; exact (bitM_zero.1 hj).elim
   | some m =>
    rw [hcn] at hj
    obtain ⟨o', g1, g2⟩ := reach_listed hc ops.toList 0 [] [] rfl rfl (fun k m hk => by simp [lk] at hk) i m hcn
    rw [ho] at g1
    cases g1
    exact g2 hons j hj
  ·intro i o ho j hj
   have := backL_spec hback i o (by rw [Array.getElem?_toList]; exact ho) j hj
   omega
  ·rw [Array.getElem?_replicate]
   constructor
   ·intro hi
    split at hi
    ·rename_i hlt
     have hlt' : i < (zip3 0 ops.toList ls).length := by rw [zip3_len h1]; simpa using hlt
     refine List.mem_map.2 ⟨(zip3 0 ops.toList ls)[i], List.getElem_mem _, ?_⟩
     have := (zip3_get (List.getElem?_eq_getElem hlt')).1
     omega
    ·cases hi
   ·intro hi
    obtain ⟨p, hp, rfl⟩ := List.mem_map.1 hi
    obtain ⟨n, hn, hpn⟩ := List.getElem_of_mem hp
    have hg := zip3_get (x := p) (by rw [List.getElem?_eq_getElem hn, hpn])
    rw [zip3_len h1] at hn
    have : p.1 < ops.size := by simp at hn; omega
    rw [if_pos this]
  ·obtain ⟨n, hn, hpn⟩ := List.getElem_of_mem hp
   obtain ⟨g1, g2, -⟩ := zip3_get (x := p) (by rw [List.getElem?_eq_getElem hn, hpn])
   rw [Array.getElem?_toList] at g2
   rw [show p.1 = n by omega]
   exact g2
  ·refine List.pairwise_iff_getElem.2 fun i j hi hj hij => ?_
   have g1 := (zip3_get (List.getElem?_eq_getElem hi)).1
   have g2 := (zip3_get (List.getElem?_eq_getElem hj)).1
   omega
  ·intro i o ho hl
   rw [Array.getElem?_replicate] at hl
   split at hl <;> cases hl
 ·cases h
def calm (D : Nat → Bool) : Code → Bool
 | .skip => true
 | .region _ ops _ => calmOps D ops
 | .seq x y => calm D x && calm D y
 | .cond _ x y => calm D x && calm D y
 | .block _ c => calm D c
 | .exit _ => true
 | .ret => true
 | _ => false
theorem rel_df {σ : St} {a : Act} {w : World} (h : Rel w0 A0 N σ a w) : a.defers = [] := by
 obtain ⟨L, A, h⟩ := h
 exact h.df
theorem strip_of {a : Act} (h : a.defers = []) (ds : List Deferred) : strip { a with defers := ds } = a := by cases a; cases h; rfl
theorem awp_in (hS : TysOk P S) (hm : P.follows .mixedOrders = true) {r : Option Nat} {n : Nat} {ds : List Deferred} {D : Nat → Bool} {tm : Array Value} : ∀ (c : Code) {K : Ex → St → Prop} {σ : St} {a : Act} {w : World} {Q : Exit → Act → World → Prop},
 calm D c = true → awp P S N c K σ → Rel w0 A0 N σ (strip a) w → Keep ds D tm a → (∀ e σ' a' w', Rel w0 A0 N σ' (strip a') w' → Keep ds D tm a' → K e σ' → Q e.to a' w') → c.wpIn (Fr r) n P Q a w := by
 intro c
 induction c with
 | skip => intro K σ a w Q hc h hr ha hK; exact wpIn_skip (hK .normal σ a w hr ha h)
 | region id ops draw =>
  intro K σ a w Q hc h hr ha hK
  have hk : ∀ σ' a' w', Rel w0 A0 N σ' a' w' → K .normal σ' → bare ds D tm Q .normal a' w' := fun σ' a' w' hr' hk =>
   ⟨rel_df hr', fun hkp => hK .normal σ' { a' with defers := ds } w' (by rw [strip_of (rel_df hr')]; exact hr') hkp hk⟩
  cases draw with
  | false =>
   refine wpIn_region (wpOps_in hc _ ha ?_)
   have := steps_sound (Q := bare ds D tm Q) hS ops.toList 0 [] rfl rfl h hr hk
   rw [Array.length_toList] at this
   rw [List.range_eq_range']
   exact this
  | true => exact wpIn_region_any hm (wpAny_in hc _ _ ha (regD_any hS h hr hk))
 | seq x y ihx ihy =>
  intro K σ a w Q hc h hr ha hK
  rw [calm, Bool.and_eq_true] at hc
  refine wpIn_seq (ihx hc.1 h hr ha fun e σ' a' w' hr' ha' hk => ?_)
  cases e with
  | normal => exact ihy hc.2 hk hr' ha' hK
  | exit i => exact hK (.exit i) σ' a' w' hr' ha' hk
  | ret => exact hK .ret σ' a' w' hr' ha' hk
 | cond c x y ihx ihy =>
  intro K σ a w Q hc h hr ha hK
  rw [calm, Bool.and_eq_true] at hc
  rw [awp_cond] at h
  split at h
  ·rename_i t ht
   have hev : a.eval c = .bool t := by
    obtain ⟨L, A, hI⟩ := hr
    have := ev_rv hI c
    rw [show evA σ.get c = .d (.bool t) from ht] at this
    exact rv_bool this
   exact wpIn_cond_split hev (fun e => ihx hc.1 (h.yes e) hr ha hK) (fun e => ihy hc.2 (h.no e) hr ha hK)
  ·cases h
 | block id c ih =>
  intro K σ a w Q hc h hr ha hK
  refine wpIn_block (ih hc h hr ha fun e σ' a' w' hr' ha' hk => ?_)
  cases e with
  | normal => exact hK .normal σ' a' w' hr' ha' hk
  | ret => exact hK .ret σ' a' w' hr' ha' hk
  | exit i =>
   simp only [Ex.to, Exit.inBlock]
   simp only at hk
   cases e : Nat.beq i id with
   | true =>
    rw [e] at hk
    rw [if_pos (Nat.eq_of_beq_eq_true e)]
    exact hK .normal σ' a' w' hr' ha' hk
   | false =>
    rw [e] at hk
    rw [if_neg (beq_false_ne e)]
    exact hK (.exit i) σ' a' w' hr' ha' hk
 | exit i => intro K σ a w Q hc h hr ha hK; exact wpIn_exit (hK (.exit i) σ a w hr ha h)
 | ret => intro K σ a w Q hc h hr ha hK; exact wpIn_ret (hK .ret σ a w hr ha h)
 | _ => intro K σ a w Q hc; cases hc
end
end Go.Vm
end

section
/- Between the rounds of a range over a function: what the evaluator's state abides. -/
namespace Go.Vm
open Go.RowKit (Below)
def FreeD (d : D) : Prop := ∀ {w w' : World} {A A' : Sta} {v : Value}, Rep w A d v → Rep w' A' d v
def FreeV (c : AV) : Prop := ∀ {L : Lay} {w w' : World} {A A' : Sta} {v : Value}, RV L w A c v → RV L w' A' c v
theorem free_str (s : ByteArray) : FreeD (.str s) := fun h => by cases h; constructor
theorem free_int (k : IntKind) (n : Int) : FreeD (.int k n) := fun h => by cases h; constructor
theorem free_bool (b : Bool) : FreeD (.bool b) := fun h => by cases h; constructor
theorem free_d {d : D} (h : FreeD d) : FreeV (.d d) := fun hr => by cases hr with | d hr => exact .d (h hr)
theorem free_ptr (b off : Nat) : FreeV (.ptr b off) := fun h => by cases h; constructor
theorem free_nil (sz : Nat) : FreeV (.nil sz) := fun h => by cases h; constructor
theorem free_own (b sz n : Nat) : FreeV (.own b sz n) := fun h => by
 cases h with
 | own _ _ _ h1 => exact .own _ _ _ h1
theorem free_junk : FreeV .junk := fun _ => .junk _
theorem free_box1 (f b : Nat) : FreeV (.fnv f [.box b]) := fun {L w w' A A' v} h => by
 cases h with
 | fnv hl hr =>
  refine .fnv hl fun j c v hc hv => ?_
  have := hr j c v hc hv
  match j, hc with
  | 0, hc =>
   cases hc
   cases this
   constructor
  | j + 1, hc => simp at hc
def FreeX : Bx → Prop
 | .var cs _ => ∀ c ∈ cs, FreeV c
 | .row _ _ es _ => ∀ e ∈ es, ∀ c ∈ e.cells, FreeD c
 | .gone => True
 | _ => False
section
variable {e : Ent} {A0 : Sta} {N : Nat} {L : Lay} {A : Sta} {T : Nat → AV} {B : Nat → Option Bx} {a : Act} {w : World}
theorem Inv.shrink (h : Inv e A0 N L A T B a w) (hT : ∀ t, FreeV (T t)) (hX : ∀ b x, B b = some x → FreeX x) : Inv e A0 N L A0 T B a w := by
 refine { h with Aok := fun g o hg => h.Aok g o (h.Aold g o hg), Aold := fun _ _ hg => hg, Acl := h.Acl, Afr := fun _ _ hg => .inl hg, tm := fun t => hT t (h.tm t), bxs := fun b x hx => ?_ }
 have hf := hX b x hx
 have hb := h.bxs b x hx
 cases x with
 | var cs fz =>
  obtain ⟨C, t, h1, h2, h3, h4⟩ := hb
  exact ⟨C, t, h1, h2, fun j c v hc hv => hf c (List.mem_of_getElem? hc) (h3 j c v hc hv), fun hz o ho => h4 hz o (h.Aold _ _ ho)⟩
 | row et sz es fz =>
  obtain ⟨xs, h1, h2, h3, h4, h5⟩ := hb
  exact ⟨xs, h1, h2, fun i e j c v he hc hv => hf e (List.mem_of_getElem? he) c (List.mem_of_getElem? hc) (h3 i e j c v he hc hv), h4, fun hn o ho => h5 hn o (h.Aold _ _ ho)⟩
 | gone => trivial
 | _ => exact hf.elim
theorem own_cells (h : Inv e A0 N L A T B a w) {b : Nat} {x : Bx} (hx : B b = some x) (hf : FreeX x) {g : Nat} (hg : own L b x g) : ∃ o : Obj, w.heap[g]? = some o ∧ o.isCells = true := by
 have hb := h.bxs b x hx
 cases x with
 | var cs fz =>
  obtain ⟨C, t, h1, -⟩ := hb
  have hg : g = L.ι b := hg
  subst hg
  exact ⟨_, h1, rfl⟩
 | row et sz es fz =>
  obtain ⟨xs, h1, -⟩ := hb
  have hg : (L.hd b).ownBlock = some g := hg
  rcases h1.2 with ⟨h2, -⟩ | ⟨g', cap, cur, h2, h3, h4, -⟩
  ·rw [h2] at hg; cases hg
  ·rw [h2] at hg
   have : g' = g := by simpa [Value.ownBlock] using hg
   subst this
   exact ⟨_, h4, rfl⟩
 | gone => exact hg.elim
 | _ => exact hf.elim
theorem Inv.grown (h : Inv e A0 N L A0 T B a w) (hX : ∀ b x, B b = some x → FreeX x) (hA0 : ∀ g o, A0 g o → g < e.w.heap.size) {w' : World} {row : Option Nat} (hg : w.grownBy w' row)
 (hr : ∀ k, row = some k → e.w.heap.size ≤ k ∧ ∃ o : Obj, w.heap[k]? = some o ∧ o.isCells = false) : Inv e A0 N L A0 T B a w' := by
 have hs := h.below.size
 have hsz : w.heap.size ≤ w'.heap.size := hg.size
 have nr : ∀ k, k < e.w.heap.size → row ≠ some k := fun k hk e1 => by have := (hr k e1).1; omega
 have hblk : ∀ k, k < w.heap.size → ¬ (row = some k) → w'.heap[k]? = w.heap[k]? := fun k hk hn => hg.block k hk (fun e1 => hn e1.symm)
 refine h.turns (fun _ => False) (fun g => row = some g ∨ (w.heap.size ≤ g ∧ g < w'.heap.size)) hg.os ⟨hg.tape, trivial⟩ hg.output hsz (fun g hG => ?_) (fun g b x hG _ hx ho => ?_) (fun k hk hn => hblk k hk fun e1 => hn (.inl e1)) (fun g o ha => ?_)
  (fun _ _ h => h) (fun g o ha => by have := hA0 g o ha; omega) (fun _ _ h => .inl h) (fun _ _ => .rfl') (fun _ _ _ => rfl) (fun _ _ => rfl) (fun _ h => h) (fun _ _ h => h)
  (fun _ _ h => h.elim) (fun _ _ _ _ _ h => h.elim) (fun _ _ _ h => h.elim)
 ·rcases hG with h1 | h1
  ·obtain ⟨h2, o, h3, -⟩ := hr g h1
   exact ⟨.inl h2, by have := (Array.getElem?_eq_some_iff.1 h3).1; omega⟩
  ·exact ⟨.inl (by omega), h1.2⟩
 ·rcases hG with h1 | h1
  ·obtain ⟨h2, o, h3, h4⟩ := hr g h1
   obtain ⟨o', h5, h6⟩ := own_cells h hx (hX b x hx) ho
   rw [h3] at h5; cases h5
   rw [h4] at h6; cases h6
  ·have := (h.lo b x g hx ho).2; omega
 ·have hlt := hA0 g o ha
  exact World.cell?_of_block (w := w) (hblk g (by omega) (nr g hlt))
end
end Go.Vm
end

section
/- A range over a function whose iterator has a cell: rounds and ends as the evaluator sees them. -/
namespace Go.Vm
open Go.RowKit (Below)
structure CalmS (σ : St) : Prop where
 T : ∀ p ∈ σ.T, FreeV p.2
 X : ∀ p ∈ σ.bx, FreeX p.2 ∧ pinned p.1 = false
theorem lk_mem {α : Type} : ∀ {l : List (Nat × α)} {b : Nat} {x : α}, lk l b = some x → (b, x) ∈ l
 | [], b, x, h => by simp [lk] at h
 |(k, y) :: r, b, x, h => by
  rw [lk_cons] at h
  split at h
  ·rename_i e; cases h; subst e; exact List.mem_cons_self
  ·exact List.mem_cons_of_mem _ (lk_mem h)
theorem CalmS.get {σ : St} (h : CalmS σ) (t : Nat) : FreeV (σ.get t) := by
 unfold St.get
 cases e : lk σ.T t with
 | none => exact free_junk
 | some v => exact h.T _ (lk_mem e)
theorem CalmS.box {σ : St} (h : CalmS σ) {b : Nat} {x : Bx} (hx : lk σ.bx b = some x) : FreeX x := (h.X _ (lk_mem hx)).1
theorem CalmS.pin {σ : St} (h : CalmS σ) {b : Nat} (hp : pinned b = true) : lk σ.bx b = none := by
 cases e : lk σ.bx b with
 | none => rfl
 | some x => have := (h.X _ (lk_mem e)).2; rw [hp] at this; cases this
section
variable {e : Ent} {A0 : Sta} {N : Nat} {L : Lay} {A : Sta} {T : Nat → AV} {B : Nat → Option Bx} {a : Act} {w : World}
theorem Inv.away (h : Inv e A0 N L A0 T B a w) (hA0 : ∀ g o, A0 g o → g < e.w.heap.size) {w' : World} (G : Nat → Prop)
 (hos : w'.os = w.os) (htape : TapeOn w w') (hout : w'.output = w.output) (hsize : w.heap.size ≤ w'.heap.size)
 (hG : ∀ g, G g → e.w.heap.size ≤ g ∧ g < w'.heap.size) (hfree : ∀ g b x, G g → B b = some x → ¬ own L b x g)
 (hblock : ∀ k, k < w.heap.size → ¬ G k → w'.heap[k]? = w.heap[k]?) : Inv e A0 N L A0 T B a w' := by
 have hs := h.below.size
 refine h.turns (fun _ => False) G hos htape hout hsize (fun g hg => ⟨.inl (hG g hg).1, (hG g hg).2⟩) (fun g b x hg _ hx => hfree g b x hg hx) hblock (fun g o ha => ?_)
  (fun _ _ h => h) (fun g o ha => by have := hA0 g o ha; omega) (fun _ _ h => .inl h) (fun _ _ => .rfl') (fun _ _ _ => rfl) (fun _ _ => rfl) (fun _ h => h) (fun _ _ h => h)
  (fun _ _ h => h.elim) (fun _ _ _ _ _ h => h.elim) (fun _ _ _ h => h.elim)
 have hlt := hA0 g o ha
 exact World.cell?_of_block (w := w) (hblock g (by omega) fun hg => by have := (hG g hg).1; omega)
theorem Inv.cellAway (h : Inv e A0 N L A0 T B a w) (hA0 : ∀ g o, A0 g o → g < e.w.heap.size) {b : Nat} (hb : e.w.heap.size ≤ b) (hlt : b < w.heap.size) (hfree : ∀ b' x, B b' = some x → ¬ own L b' x b) (v : Value) :
 Inv e A0 N L A0 T B a (w.setCell ⟨b, 0, none⟩ v) := by
 have hz : (w.setCell ⟨b, 0, none⟩ v).heap.size = w.heap.size := by show (w.heap.modify b _).size = _; rw [Array.size_modify]
 exact h.away hA0 (fun g => g = b) rfl .rfl' rfl (Nat.le_of_eq hz.symm) (fun g hg => by subst hg; exact ⟨hb, by omega⟩) (fun g b' x hg hx => by subst hg; exact hfree b' x hx)
  (fun k _ hk => RowKit.Below.heap_setCell w _ v k hk)
theorem Inv.acts (h : Inv e A0 N L A T B a w) {T' : Nat → AV} {a' : Act} (hs : a'.tmps.size = N) (hd : a'.defers = []) (ht : ∀ t, RV L w A (T' t) (a'.tmps.getD t undef)) (hc : ∀ t b, (T' t).men b = true → B b ≠ none) : Inv e A0 N L A T' B a' w :=
 { h with size := hs, df := hd, tm := ht, clT := hc }
theorem Inv.drop (h : Inv e A0 N L A T B a w) {T' : Nat → AV} {B' : Nat → Option Bx} (hT : ∀ t, T' t = T t ∨ T' t = .junk) (hB : ∀ b x, B' b = some x → B b = some x) (hcT : ∀ t b, (T' t).men b = true → B' b ≠ none) (hcB : ∀ b x b', B' b = some x → x.men b' = true → B' b' ≠ none) :
 Inv e A0 N L A T' B' a w := by
 have hn : ∀ b, B' b ≠ none → B b ≠ none := fun b hb hb2 => by
  cases e : B' b with
  | none => exact hb e
  | some x => rw [hB b x e] at hb2; cases hb2
 exact { h with pin := fun b hp hb => h.pin b hp (hn b hb), tm := fun t => (hT t).elim (fun e => e ▸ h.tm t) (fun e => e ▸ .junk _), bxs := fun b x hx => h.bxs b x (hB b x hx), lo := fun b x g hx => h.lo b x g (hB b x hx), inj := fun b b' x x' g hx hx' => h.inj b b' x x' g (hB b x hx) (hB b' x' hx'), clT := hcT, clB := hcB }
theorem Inv.tmps {σ : St} (h : Inv e A0 N L A σ.get B a w) {a' : Act} (hs : a'.tmps.size = N) (hd : a'.defers = []) (ht : ∀ t, lk σ.T t ≠ none → a'.tmps.getD t undef = a.tmps.getD t undef) : Inv e A0 N L A σ.get B a' w := by
 refine h.acts hs hd (fun t => ?_) h.clT
 by_cases hn : lk σ.T t = none
 ·have : σ.get t = .junk := by unfold St.get; rw [hn]
  rw [this]; exact .junk _
 ·rw [ht t hn]; exact h.tm t
theorem Inv.rebase {σ : St} (h : Inv e A0 N L A0 σ.get (lk σ.bx) a w) : ∃ e' : Ent, e'.w = w ∧ e'.X = claims L σ.bx ∧ e'.B0 = e.B0 ∧ Inv e' A0 N L A0 σ.get (lk σ.bx) a w := by
 refine ⟨⟨w, claims L σ.bx, e.B0, L, h.below.b0, fun k hk => ?_, h.below.gl⟩, rfl, rfl, rfl, ?_⟩
 ·obtain ⟨b, x, hx, ho⟩ := hk
  exact Ent.own_le (h.lo b x k hx ho).1
 ·exact { h with below := ⟨rfl, .rfl', rfl, Nat.le_refl _, fun _ _ _ => rfl⟩, pin := fun _ _ _ => .rfl', Acl := fun _ _ _ => rfl, Afr := fun _ _ hg => .inl hg, lo := fun b x g hx hg => ⟨.inr ⟨b, x, hx, hg⟩, (h.lo b x g hx hg).2⟩ }
theorem Inv.unbase {e' : Ent} {σ τ : St} {L' : Lay} {a' : Act} {w' : World} (h : Inv e A0 N L A0 σ.get (lk σ.bx) a w) (hw : e'.w = w) (hX : e'.X = claims L σ.bx) (hB : e'.B0 = e.B0)
 (h' : Inv e' A0 N L' A0 τ.get (lk τ.bx) a' w') (hc : CalmS τ) : Inv e A0 N L' A0 τ.get (lk τ.bx) a' w' := by
 have own_of : ∀ g, e'.own g → e.own g := fun g hg => by
  rcases hg with h1 | h1
  ·rw [hw] at h1; exact .inl (Nat.le_trans h.below.size h1)
  ·rw [hX] at h1
   obtain ⟨b, x, hx, ho⟩ := h1
   exact (h.lo b x g hx ho).1
 have hb := h'.below
 refine { h' with below := ⟨?_, ?_, ?_, ?_, fun k hk hx => ?_⟩, pin := fun b hp hn => absurd (hc.pin hp) hn, Acl := fun g o hg => ?_, Afr := fun _ _ hg => .inl hg, bxs := fun b x hx => ?_, lo := fun b x g hx hg => ⟨own_of g (h'.lo b x g hx hg).1, (h'.lo b x g hx hg).2⟩ }
 ·rw [hb.os, hw]; exact h.below.os
 ·have := hb.tape; rw [hw] at this; exact h.below.tape.trans this
 ·rw [hb.output, hw]; exact h.below.output
 ·have := hb.size; rw [hw] at this; exact Nat.le_trans h.below.size this
 ·have h1 := hb.block k (by rw [hw]; exact Nat.lt_of_lt_of_le hk h.below.size) (by
   rw [hX]
   rintro ⟨b, x, hx', ho⟩
   rcases (h.lo b x k hx' ho).1 with h1 | h1
   ·omega
   ·exact hx h1)
  rw [hw] at h1
  exact h1.trans (h.below.block k hk hx)
 ·have h1 := h'.Acl g o hg
  rw [hw] at h1
  exact h1.trans (h.Acl g o hg)
 ·have := h'.bxs b x hx
  rw [hB] at this
  exact this
end
theorem lk_app {α : Type} : ∀ {l r : List (Nat × α)} {b : Nat} {x : α}, lk l b = some x → lk (l ++ r) b = some x
 | [], r, b, x, h => by simp [lk] at h
 |(k, y) :: l, r, b, x, h => by
  rw [lk_cons] at h
  rw [List.cons_append, lk_cons]
  split at h
  ·rename_i e; rw [if_pos e]; exact h
  ·rename_i e; rw [if_neg e]; exact lk_app h
theorem St.clT {σ : St} (h : okAll σ.bx σ.T = true) : ∀ t b, (σ.get t).men b = true → lk σ.bx b ≠ none := by
 intro t b hm
 unfold St.get at hm
 cases e : lk σ.T t with
 | none => rw [e] at hm; cases hm
 | some v => rw [e] at hm; exact okIn_lk (okAll_get h t v e) hm
theorem St.clB {σ : St} (h : okAllB σ.bx σ.bx = true) : ∀ b x b', lk σ.bx b = some x → x.men b' = true → lk σ.bx b' ≠ none := fun b x _ hx hm => bx_okIn_lk (okAllB_get h b x hx) hm
def At (e : Ent) (A0 : Sta) (N : Nat) (a : Act) (b : Nat) (σ : St) (W : World) : Prop := ∃ L, Inv e A0 N L A0 σ.get (lk σ.bx) (strip a) W ∧ b < W.heap.size ∧ ∀ b' x, lk σ.bx b' = some x → ¬ own L b' x b
section
variable {e : Ent} {A0 : Sta} {N : Nat} {a : Act} {b : Nat} {σ : St} {W W' : World}
theorem At.grown (hA : ∀ g o, A0 g o → g < e.w.heap.size) (hσ : CalmS σ) (h : At e A0 N a b σ W) {row : Option Nat} (hg : W.grownBy W' row) (hr : ∀ k, row = some k → e.w.heap.size ≤ k ∧ ∃ o : Obj, W.heap[k]? = some o ∧ o.isCells = false) : At e A0 N a b σ W' := by
 obtain ⟨L, hI, hb, ho⟩ := h
 exact ⟨L, hI.grown (fun b x hx => hσ.box hx) hA hg hr, Nat.lt_of_lt_of_le hb hg.size, ho⟩
theorem At.put (hA : ∀ g o, A0 g o → g < e.w.heap.size) (hb : e.w.heap.size ≤ b) (h : At e A0 N a b σ W) (v : Value) : At e A0 N a b σ (W.setCell ⟨b, 0, none⟩ v) := by
 obtain ⟨L, hI, hlt, ho⟩ := h
 exact ⟨L, hI.cellAway hA hb hlt ho v, by show b < (W.heap.modify b _).size; rw [Array.size_modify]; exact hlt, ho⟩
theorem At.tmps (h : At e A0 N a b σ W) {a' : Act} (hs : a'.tmps.size = N) (ht : ∀ t, lk σ.T t ≠ none → a'.tmps.getD t undef = a.tmps.getD t undef) : At e A0 N a' b σ W := by
 obtain ⟨L, hI, hlt, ho⟩ := h
 exact ⟨L, hI.tmps (a' := strip a') hs rfl ht, hlt, ho⟩
theorem At.size (h : At e A0 N a b σ W) : a.tmps.size = N := h.choose_spec.1.size
theorem At.gl (h : At e A0 N a b σ W) : GOk e.B0 W := h.choose_spec.1.below.gl
end
structure Rnd (e : Ent) (A0 : Sta) (N : Nat) (ds : List Deferred) (D : Nat → Bool) (b : Nat) (tm : Array Value) (W : World) (fin : Ex → St → Prop) (ex : Exit) (a' : Act) (W' : World) : Prop where
 out : ∃ ex' σ, ex = ex'.to ∧ fin ex' σ ∧ At e A0 N a' b σ W'
 keep : Keep ds D tm a'
 others : KeepsOthers W W'
 at_ : W'.heap[b]? = W.heap[b]?
theorem round_in {P : Program} {S : Tys} {e : Ent} {A0 : Sta} {N : Nat} (hS : TysOk P S) (hm : P.follows .mixedOrders = true) {r : Option Nat} {n : Nat} {D : Nat → Bool} {b : Nat} {c : Code} {σ : St} {a : Act} {W : World} {fin : Ex → St → Prop} {Q : Exit → Act → World → Prop}
 (hat : At e A0 N a b σ W) (hσ : CalmS σ) {ds : List Deferred} (hd : a.defers = ds)
 (hc : calm D c = true) (hw : awp P S N c (fun ex σ' => ∃ τ rn, fin ex τ ∧ Le σ' τ rn) σ) (hfin : ∀ ex τ, fin ex τ → CalmS τ)
 (hQ : ∀ ex a' W', Rnd e A0 N ds D b a.tmps W fin ex a' W' → Q ex a' W') : c.wpIn (Fr r) n P Q a W := by
 obtain ⟨L, hI, hlt, hb⟩ := hat
 obtain ⟨e', hw', hX', hB', hI'⟩ := hI.rebase
 refine awp_in hS hm (ds := ds) (tm := a.tmps) c hc hw ⟨L, A0, hI'⟩ ⟨hd, fun _ _ => rfl⟩ ?_
 rintro ex σ' a' W' hr hk ⟨τ, rn, hf, hle⟩
 obtain ⟨L', A', hI2⟩ := le_sound hle hr
 have hc2 := hfin _ _ hf
 have hI3 := hI2.shrink (fun t => hc2.get t) (fun b x hx => hc2.box hx)
 have hbl := hI3.below
 refine hQ _ _ _ ⟨⟨ex, τ, rfl, hf, L', hI.unbase hw' hX' hB' hI3 hc2, ?_, fun b' x hx ho => ?_⟩, hk, ⟨?_, fun k o hk ho => ?_⟩, ?_⟩
 ·have := hbl.size; rw [hw'] at this; omega
 ·rcases (hI3.lo b' x b hx ho).1 with h1 | h1
  ·rw [hw'] at h1; omega
  ·rw [hX'] at h1
   obtain ⟨b2, x2, hx2, ho2⟩ := h1
   exact hb b2 x2 hx2 ho2
 ·have := hbl.size; rw [hw'] at this; exact this
 ·have hkl : k < W.heap.size := (Array.getElem?_eq_some_iff.1 hk).1
  have h1 := hbl.block k (by rw [hw']; exact hkl) (by
   rw [hX']
   rintro ⟨b2, x2, hx2, ho2⟩
   obtain ⟨o', ho', hoc⟩ := own_cells hI hx2 (hσ.box hx2) ho2
   rw [hk] at ho'; cases ho'
   rw [ho] at hoc; cases hoc)
  rw [hw'] at h1
  exact h1.trans hk
 ·have h1 := hbl.block b (by rw [hw']; exact hlt) (by
   rw [hX']
   rintro ⟨b2, x2, hx2, ho2⟩
   exact hb b2 x2 hx2 ho2)
  rw [hw'] at h1
  exact h1
theorem pre_in {P : Program} {S : Tys} {e : Ent} {A0 : Sta} {N : Nat} (hS : TysOk P S) (hm : P.follows .mixedOrders = true) {r : Option Nat} {n : Nat} {ds : List Deferred} {D : Nat → Bool} {tm : Array Value} {x1 x2 x3 x4 x5 X y : Code} {K : Ex → St → Prop} {Q : Exit → Act → World → Prop} {σ : St} {a : Act} {w : World}
 (hc : calm D (.seq x1 (.seq x2 (.seq x3 (.seq x4 x5)))) = true) (h : awp P S N (.seq x1 (.seq x2 (.seq x3 (.seq x4 x5)))) K σ) (hr : Rel e A0 N σ (strip a) w) (ha : Keep ds D tm a)
 (hn : ∀ σ' a' w', Rel e A0 N σ' (strip a') w' → Keep ds D tm a' → K .normal σ' → X.wpIn (Fr r) n P (Exit.then (y.wpIn (Fr r) n P Q) Q) a' w')
 (ho : ∀ ex σ', ex ≠ .normal → ¬ K ex σ') : (Code.seq x1 (.seq x2 (.seq x3 (.seq x4 (.seq (.seq x5 X) y))))).wpIn (Fr r) n P Q a w := by
 simp only [calm, Bool.and_eq_true] at hc
 obtain ⟨c1, c2, c3, c4, c5⟩ := hc
 refine wpIn_seq (awp_in hS hm x1 c1 h hr ha fun e σ a w hr ha hk => ?_)
 cases e with
 | exit i => exact (ho (.exit i) _ (fun e => by cases e) hk).elim
 | ret => exact (ho .ret _ (fun e => by cases e) hk).elim
 | normal =>
 refine wpIn_seq (awp_in hS hm x2 c2 hk hr ha fun e σ a w hr ha hk => ?_)
 cases e with
 | exit i => exact (ho (.exit i) _ (fun e => by cases e) hk).elim
 | ret => exact (ho .ret _ (fun e => by cases e) hk).elim
 | normal =>
 refine wpIn_seq (awp_in hS hm x3 c3 hk hr ha fun e σ a w hr ha hk => ?_)
 cases e with
 | exit i => exact (ho (.exit i) _ (fun e => by cases e) hk).elim
 | ret => exact (ho .ret _ (fun e => by cases e) hk).elim
 | normal =>
 refine wpIn_seq (awp_in hS hm x4 c4 hk hr ha fun e σ a w hr ha hk => ?_)
 cases e with
 | exit i => exact (ho (.exit i) _ (fun e => by cases e) hk).elim
 | ret => exact (ho .ret _ (fun e => by cases e) hk).elim
 | normal =>
 refine wpIn_seq (wpIn_seq (awp_in hS hm x5 c5 hk hr ha fun e σ a w hr ha hk => ?_))
 cases e with
 | exit i => exact (ho (.exit i) _ (fun e => by cases e) hk).elim
 | ret => exact (ho .ret _ (fun e => by cases e) hk).elim
 | normal => exact hn σ a w hr ha hk
def EvEnd (w : World) (A : Sta) (ret : D) (e : Ending) (w' : World) : Prop := ∃ v A', e = .returned v ∧ Rep w' A' ret v ∧ BelowD w w' ∧ (∀ g o, A g o → A' g o) ∧ (∀ g o, A' g o → g < w'.heap.size) ∧ (∀ g o, A' g o → A g o ∨ w.heap.size ≤ g)
section
variable {P : Program} {S : Tys} {N : Nat} {w : World} {hg : GOk w.heap.size w} {A : Sta} {n : Nat}
theorem start_plain {args : List D} {vals : Array Value} (hlen : args.length ≤ N) (hA : ∀ g o, A g o → g < w.heap.size) (hsz : args.length = vals.size) (hreps : ∀ (j : Nat) c v, args[j]? = some c → vals[j]? = some v → Rep w A c v) :
 Inv (Ent.plain w lay0 hg) A N lay0 A (St.get ⟨numT 0 args, []⟩) (lk []) { tmps := vals ++ Array.replicate (N - vals.size) undef, defers := [] } w := by
 refine ⟨⟨rfl, .rfl', rfl, Nat.le_refl _, fun _ _ _ => rfl⟩, fun _ _ _ => .rfl', rfl, by simp; omega, hA, fun _ _ h => h, fun _ _ _ => rfl, fun _ _ h => .inl h, fun t => ?_, fun b x hx => by simp [lk] at hx, fun b x g hx => by simp [lk] at hx, fun b b' x x' g hx => by simp [lk] at hx, fun t b hm => ?_, fun b x b' hx => by simp [lk] at hx⟩
 ·simp only [St.get, numT_get, Nat.zero_le, if_true, Nat.sub_zero]
  cases ht : args[t]? with
  | none => exact .junk _
  | some d =>
   have hlt : t < vals.size := by rw [← hsz]; exact lt_of_get ht
   refine .d (hreps t d _ ht ?_)
   simp only [Array.getD_eq_getD_getElem?, Array.getElem?_append, if_pos hlt]
   rw [Array.getElem?_eq_getElem hlt]
   rfl
 ·simp only [St.get, numT_get, Nat.zero_le, if_true, Nat.sub_zero] at hm
  cases ht : args[t]? with
  | none => rw [ht] at hm; cases hm
  | some d => rw [ht] at hm; cases hm
theorem leave0 (hS : TysOk P S) {fn : Func} {ret : D} {σ : St} {a : Act} {W : World} {F : Fence} (hr : Rel (Ent.plain w lay0 hg) A N σ (strip a) W) (h : retP S fn ret σ) (hd : a.defers = []) : LeavesInM F n P fn a.tmps (EvEnd w A ret) a.defers .returning W := by
 obtain ⟨-, v, h2, A', h3, h4, h5, h6, h7⟩ := ret_sound hS hr h
 rw [hd]
 refine ⟨v, h2, v, A', rfl, h3, ⟨⟨h4.os, h4.tape.1, h4.output, h4.size, fun k hk => h4.block k hk id⟩, h4.tape.2⟩, h5, h6, fun g o hg => ?_⟩
 rcases h7 g o hg with h | h | h
 ·exact .inl h
 ·exact .inr h
 ·exact h.elim
theorem leave1 (hS : TysOk P S) {fn : Func} {ret : D} {σ : St} {a : Act} {W : World} {F : Fence} {d : Nat} (hA : ∀ g o, A g o → g < w.heap.size) {L : Lay} (hI : Inv (Ent.plain w lay0 hg) A N L A σ.get (lk σ.bx) (strip a) W) (hσ : CalmS σ) (h : retP S fn ret σ)
 (hd : a.defers = [{ target := .collected d, args := #[] }]) (hl : w.heap.size ≤ d) (hD : W.heap[d]? = some (.deferred (some []))) : LeavesInM F n P fn a.tmps (EvEnd w A ret) a.defers .returning W := by
 rw [hd]
 have hlt : d < W.heap.size := (Array.getElem?_eq_some_iff.1 hD).1
 refine ⟨by simp, .inl ⟨d, _, rfl, run_takeDeferred hD, ?_⟩⟩
 have hI2 : Inv (Ent.plain w lay0 hg) A N L A σ.get (lk σ.bx) (strip a) (W.putObj d (.deferred none)) := hI.grown (fun b x hx => hσ.box hx) hA (grownBy_putObj' W d _) (fun k e => by cases e; exact ⟨hl, _, hD, rfl⟩)
 have := leave0 (n := n) (F := F) (P := P) (a := strip a) hS (σ := σ) ⟨L, A, hI2⟩ h rfl
 exact this
end
end Go.Vm
end
