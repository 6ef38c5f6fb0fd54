/- Each operation does in a world what the evaluator says: the plain ones, memory, calls. -/
import Derived.Test.YtgfaonnajdoeoaaVmD
import Derived.Laws.CopyRow
import Derived.Laws.Entries
import Derived.Laws.StructEq
namespace Go.Vm
open Go.RowKit (Below)

/-- What an outcome leaves: need, pick, wrap and call resolved. -/
inductive Out (P : Program) : Res → AV → List (Nat × Option Bx) → Prop
  | ok (v : AV) (ups) : Out P (.ok v ups) v ups
  | call {f : FuncId} {args : List D} {r : D} {ups} (h : Ev P f args r) : Out P (.call f args ups) (.d r) ups
  | need {p : Prop} {r : Res} {v : AV} {ups} (hp : p) (h : Out P r v ups) : Out P (.need p r) v ups
  | pick {es : List D} {i : Nat} {k : D → Res} {e : D} {v : AV} {ups} (he : es[i]? = some e) (h : Out P (k e) v ups) : Out P (.pick es i k) v ups
  | wr {ik : IntKind} {n z : Int} {k : Int → Res} {v : AV} {ups} (hz : ik.wrap n = z) (h : Out P (k z) v ups) : Out P (.wr ik n k) v ups

inductive UpsR (dst : Option Nat) : List (Nat × Option Bx) → (Nat → AV) → (Nat → Option Bx) → (Nat → AV) → (Nat → Option Bx) → Prop
  | nil (T B) : UpsR dst [] T B T B
  | kill {b r T B T' B'} (h : UpsR dst r (killT T b) (killB B b) T' B') : UpsR dst ((b, none) :: r) T B T' B'
  | set {b x r T B T' B'} (hb : B b ≠ none) (hd : dst ≠ some b) (hm : ∀ b', Bx.men b' x = true → B b' ≠ none) (h : UpsR dst r T (upd B b (some x)) T' B') : UpsR dst ((b, some x) :: r) T B T' B'
  | new {b x r T B T' B'} (hd : dst = some b) (hb : B b = none) (hm : ∀ b', Bx.men b' x = true → B b' ≠ none) (h : UpsR dst r T (upd B b (some x)) T' B') : UpsR dst ((b, some x) :: r) T B T' B'

def PutR (N : Nat) (dst : Option Nat) (v : AV) (T : Nat → AV) (B : Nat → Option Bx) (T' : Nat → AV) : Prop := match dst with
  | none => T' = T
  | some t => t < N ∧ (∀ b, v.men b = true → B b ≠ none) ∧ T' = upd T t v

theorem zarr {P : Program} {w : World} {o : Oper} {a : Act} {K : Act → World → Prop} {Q : Exit → Act → World → Prop} {u : Value} {w' : World}
    (hr : (execOp a.eval o).run P w = .ok (.value u) w') (hk : K (a.put o.dst u) w') : o.wp P a w K Q := by
  unfold Oper.wp; rw [hr]; exact hk
theorem zskip {P : Program} {w : World} {o : Oper} {a : Act} {K : Act → World → Prop} {Q : Exit → Act → World → Prop} {w' : World}
    (hr : (execOp a.eval o).run P w = .ok .skip w') (hk : K (a.put o.dst undef) w') : o.wp P a w K Q := by
  unfold Oper.wp; rw [hr]; exact hk

/-- An abstract zero against a value. -/
def zmatch : AV → Value → Bool
  | .d (.int k n), .int k' n' => decide (k = k') && decide (n = n')
  | .d (.bool b), .bool b' => b == b'
  | .d (.str s), .string s' => decide (s = s')
  | .nil _, .slice none 0 0 => true
  | .junk, _ => true
  | _, _ => false
def zmatchL : List AV → List Value → Bool
  | [], [] => true
  | a :: as, v :: vs => zmatch a v && zmatchL as vs
  | _, _ => false
theorem zmatch_rv {L : Lay} {w : World} {A : Sta} {x : AV} {v : Value} (h : zmatch x v = true) : RV L w A x v := by
  unfold zmatch at h
  split at h
  · simp only [Bool.and_eq_true, decide_eq_true_eq] at h; obtain ⟨rfl, rfl⟩ := h; exact .d (.int _ _)
  · simp only [beq_iff_eq] at h; subst h; exact .d (.bool _)
  · simp only [decide_eq_true_eq] at h; subst h; exact .d (.str _)
  · exact .nil _
  · exact .junk _
  · cases h
theorem zmatchL_rv {L : Lay} {w : World} {A : Sta} : ∀ {xs : List AV} {vs : List Value}, zmatchL xs vs = true →
    xs.length = vs.length ∧ ∀ (j : Nat) c v, xs[j]? = some c → vs[j]? = some v → RV L w A c v
  | [], [], _ => ⟨rfl, fun j c v h => by simp at h⟩
  | [], _ :: _, h => by cases h
  | _ :: _, [], h => by cases h
  | x :: xs, v :: vs, h => by
    simp only [zmatchL, Bool.and_eq_true] at h
    obtain ⟨h1, h2⟩ := zmatchL_rv (L := L) (w := w) (A := A) h.2
    refine ⟨by simp [h1], fun j c u hc hu => ?_⟩
    cases j with
    | zero => simp only [List.getElem?_cons_zero, Option.some.injEq] at hc hu; subst hc; subst hu; exact zmatch_rv h.1
    | succ j => simp only [List.getElem?_cons_succ] at hc hu; exact h2 j c u hc hu

/-- The table of types is the program's. -/
structure TyOk (P : Program) (t : TypeId) (ti : TI) : Prop where
  und : P.underlying t = some ti.und
  zlen : ti.zero.length = ti.size
  held : ∀ fs, ti.und = .struct fs → P.stoodInHeld t = false ∧ ∀ f ∈ fs.toList, f.name ≠ "_" ∧ (P.info? f.type).isSome = true
  info : ∃ i z, P.info? t = some i ∧ i.size = ti.size ∧ i.bytes = ti.bytes ∧ i.zero = some z ∧ zmatchL ti.zero z.cells.toList = true
def TysOk (P : Program) (S : Tys) : Prop := ∀ t ti, S t = some ti → TyOk P t ti

def heldT (P : Program) (t : TypeId) : TypeDesc → Bool
  | .struct fs => !P.stoodInHeld t && fs.toList.all fun f => f.name != "_" && (P.info? f.type).isSome
  | _ => true
def sizesOf (P : Program) (t : TypeId) : Option (Nat × Nat) := (P.info? t).map fun i => (i.size, i.bytes)
def zeroOf (P : Program) (t : TypeId) : List Value := match (P.info? t).bind (·.zero) with
  | some z => z.cells.toList
  | none => []
theorem tysOk_of {P : Program} (tbl : List (Nat × TI)) (h1 : tbl.map (fun p => P.underlying p.1) = tbl.map (fun p => some p.2.und))
    (h2 : tbl.map (fun p => sizesOf P p.1) = tbl.map (fun p => some (p.2.size, p.2.bytes)))
    (h3 : (tbl.all fun p => Nat.beq p.2.zero.length p.2.size && heldT P p.1 p.2.und && (((P.info? p.1).bind (·.zero)).isSome && zmatchL p.2.zero (zeroOf P p.1))) = true) : TysOk P (lk tbl) := by
  have mem : ∀ (l : List (Nat × TI)) t ti, lk l t = some ti → (t, ti) ∈ l := by
    intro l
    induction l with
    | nil => intro t ti h; cases h
    | cons p r ih =>
      intro t ti h
      obtain ⟨k, v⟩ := p
      simp only [lk] at h
      cases e : Nat.beq k t with
      | true =>
        rw [e] at h
        simp only [Option.some.injEq] at h
        have := Nat.eq_of_beq_eq_true e
        subst this; subst h
        exact List.mem_cons_self
      | false =>
        rw [e] at h
        exact List.mem_cons_of_mem _ (ih t ti h)
  intro t ti hS
  have hm := mem tbl t ti hS
  have g1 := List.map_inj_left.1 h1 _ hm
  have g2 := List.map_inj_left.1 h2 _ hm
  have g3 := (List.all_eq_true.1 h3) _ hm
  rw [Bool.and_eq_true, Bool.and_eq_true] at g3
  refine ⟨g1, Nat.eq_of_beq_eq_true g3.1.1, ?_, ?_⟩
  · intro fs hfs
    have := g3.1.2
    rw [hfs] at this
    simp only [heldT, Bool.and_eq_true, Bool.not_eq_true', List.all_eq_true, bne_iff_ne] at this
    exact this
  replace g3 := g3.2
  simp only [sizesOf, Option.map_eq_some_iff] at g2
  obtain ⟨i, hi, he⟩ := g2
  simp only [Prod.mk.injEq] at he
  simp only [Bool.and_eq_true, zeroOf, hi, Option.bind_some] at g3
  obtain ⟨g3, g4⟩ := g3
  obtain ⟨z, hz⟩ := Option.isSome_iff_exists.1 g3
  rw [hz] at g4
  exact ⟨i, z, hi, he.1, he.2, hz, g4⟩

section
variable {P : Program} {S : Tys}
theorem TyOk.run_und {t : TypeId} {ti : TI} (h : TyOk P t ti) (w : World) : (underlying t).run P w = .ok ti.und w := run_underlying h.und w
theorem TyOk.run_size {t : TypeId} {ti : TI} (h : TyOk P t ti) (w : World) : (sizeOf t).run P w = .ok ti.size w := by
  obtain ⟨i, z, hi, h1, _⟩ := h.info
  simp [sizeOf, typeInfo, hi, h1]
theorem TyOk.run_zero {t : TypeId} {ti : TI} (h : TyOk P t ti) : ∃ z, (∀ w, (zeroValue t).run P w = .ok z w) ∧ zmatchL ti.zero z.cells.toList = true := by
  obtain ⟨i, z, hi, _, _, hz, hm⟩ := h.info
  exact ⟨z, fun w => by simp [zeroValue, typeInfo, hi, hz], hm⟩
theorem TyOk.sizeMap {t : TypeId} {ti : TI} (h : TyOk P t ti) : (P.info? t).map (·.size) = some ti.size := by
  obtain ⟨i, z, hi, h1, _⟩ := h.info
  simp [hi, h1]
theorem TyOk.run_isAgg {t : TypeId} {ti : TI} (h : TyOk P t ti) (w : World) : (isAgg t).run P w = .ok (isAggT ti.und) w := by
  simp only [isAgg, Sem.run_bind, h.run_und, Result.andThen_ok]
  cases ti.und <;> rfl

variable {w0 : World} {A0 : Sta} {N : Nat} {L : Lay} {A : Sta} {T : Nat → AV} {B : Nat → Option Bx} {a : Act} {w : World}

theorem const_rv (v : Value) : RV L w A (constA v) v := by
  unfold constA
  split
  · exact .d (.int _ _)
  · exact .d (.bool _)
  · exact .d (.str _)
  · exact .nil 0
  · exact .junk _
theorem ev_rv (h : Inv w0 A0 N L A T B a w) (x : Operand) : RV L w A (evA T x) (a.eval x) := by
  cases x with
  | tmp t => exact h.tm t
  | const v => exact const_rv v
  | global g => exact .junk _
  | func f => exact .d (.fn rfl fun j c v hc => by simp at hc)
theorem ev_cl (h : Inv w0 A0 N L A T B a w) (x : Operand) : ∀ b, (evA T x).men b = true → B b ≠ none := by
  cases x with
  | tmp t => exact h.clT t
  | const v =>
    intro b hb
    simp only [evA, constA] at hb
    split at hb <;> cases hb
  | global g => intro b hb; cases hb
  | func f => intro b hb; cases hb
theorem resz_or (t : TypeId) (v : AV) : resz S t v = v ∨ ∃ n m, v = .nil n ∧ resz S t v = .nil m := by
  unfold resz
  split
  · split
    · split
      · split
        · exact .inr ⟨_, _, rfl, rfl⟩
        · exact .inl rfl
      · exact .inl rfl
    · exact .inl rfl
  · exact .inl rfl
theorem resz_rv {t : TypeId} {v : AV} {u : Value} (h : RV L w A v u) : RV L w A (resz S t v) u := by
  rcases resz_or (S := S) t v with e | ⟨n, m, e1, e2⟩
  · rw [e]; exact h
  · rw [e2]; rw [e1] at h; cases h; exact .nil m
theorem resz_cl {t : TypeId} {v : AV} (h : ∀ b, v.men b = true → B b ≠ none) : ∀ b, (resz S t v).men b = true → B b ≠ none := by
  rcases resz_or (S := S) t v with e | ⟨n, m, e1, e2⟩
  · rw [e]; exact h
  · rw [e2]; intro b hb; cases hb

structure Sound (P : Program) (S : Tys) (o : Oper) : Prop where
  run : ∀ {w0 : World} {A0 : Sta} {N : Nat} {L : Lay} {A : Sta} {T : Nat → AV} {B : Nat → Option Bx} {a : Act} {w : World} {v : AV} {ups : List (Nat × Option Bx)}
    {T1 : Nat → AV} {B1 : Nat → Option Bx} {T2 : Nat → AV} {K : Act → World → Prop} {Q : Exit → Act → World → Prop},
    Inv w0 A0 N L A T B a w → Out P (eff S o (evA T) B) v ups → UpsR o.dst ups T B T1 B1 → PutR N o.dst v T1 B1 T2 →
    (∀ L' A' a' w', Inv w0 A0 N L' A' T2 B1 a' w' → K a' w') → o.wp P a w K Q

theorem fin {dst : Option Nat} {v : AV} {u : Value} {T2 : Nat → AV} (h : Inv w0 A0 N L A T B a w) (hv : RV L w A v u) (hp : PutR N dst v T B T2) :
    Inv w0 A0 N L A T2 B (a.put dst u) w := by
  cases dst with
  | none => simp only [PutR] at hp; subst hp; exact h
  | some t =>
    obtain ⟨h1, h2, rfl⟩ := hp
    exact h.put h1 hv h2
/-- A value, nothing written. -/
theorem pureV {o : Oper} {v : AV} {u : Value} {T1 : Nat → AV} {B1 : Nat → Option Bx} {T2 : Nat → AV} {K : Act → World → Prop} {Q : Exit → Act → World → Prop}
    (h : Inv w0 A0 N L A T B a w) (hr : (execOp a.eval o).run P w = .ok (.value u) w) (hv : RV L w A v u) (hu : UpsR o.dst [] T B T1 B1)
    (hp : PutR N o.dst v T1 B1 T2) (hK : ∀ L' A' a' w', Inv w0 A0 N L' A' T2 B1 a' w' → K a' w') : o.wp P a w K Q := by
  cases hu
  exact zarr hr (hK _ _ _ _ (fin h hv hp))

theorem s_move {dst type pos after guard} (x : Operand) : Sound P S ⟨dst, .move x, type, pos, after, guard⟩ := by
  refine ⟨?_⟩
  intro w0 A0 N L A T B a w v ups T1 B1 T2 K Q hI ho hu hp hK
  simp only [eff] at ho
  cases ho
  exact pureV hI rfl (ev_rv hI x) hu hp hK
theorem s_assign {dst type pos after guard} (x : Operand) : Sound P S ⟨dst, .assign x, type, pos, after, guard⟩ := by
  refine ⟨?_⟩
  intro w0 A0 N L A T B a w v ups T1 B1 T2 K Q hI ho hu hp hK
  simp only [eff] at ho
  cases ho
  exact pureV hI rfl (resz_rv (ev_rv hI x)) hu hp hK
theorem rv_bool {t : Bool} {u : Value} (h : RV L w A (.d (.bool t)) u) : u = .bool t := by cases h with | d h => cases h; rfl
theorem rv_int {k : IntKind} {n : Int} {u : Value} (h : RV L w A (.d (.int k n)) u) : u = .int k n := by cases h with | d h => cases h; rfl
theorem rv_str {s : ByteArray} {u : Value} (h : RV L w A (.d (.str s)) u) : u = .string s := by cases h with | d h => cases h; rfl
theorem rv_ptr {b off : Nat} {u : Value} (h : RV L w A (.ptr b off) u) : u = .pointer (some ⟨L.ι b, off, none⟩) := by cases h; rfl
theorem rv_eptr {b sz i off : Nat} {u : Value} (h : RV L w A (.eptr b sz i off) u) : u = .pointer (some ⟨L.ι b, i * sz + off, none⟩) := by cases h; rfl
theorem rv_own {b sz n : Nat} {u : Value} (h : RV L w A (.own b sz n) u) : u = L.hd b := by cases h; rfl
theorem rv_nil {sz : Nat} {u : Value} (h : RV L w A (.nil sz) u) : u = .slice none 0 0 := by cases h; rfl

theorem s_pick {dst type pos after guard} (c x y : Operand) : Sound P S ⟨dst, .pick c x y, type, pos, after, guard⟩ := by
  refine ⟨?_⟩
  intro w0 A0 N L A T B a w v ups T1 B1 T2 K Q hI ho hu hp hK
  have hc := ev_rv hI c
  simp only [eff] at ho
  split at ho
  · rename_i t ht
    rw [ht] at hc
    have hc := rv_bool hc
    cases t with
    | true => cases ho; exact pureV hI (by simp [execOp, hc, asBool]) (ev_rv hI x) hu hp hK
    | false => cases ho; exact pureV hI (by simp [execOp, hc, asBool]) (ev_rv hI y) hu hp hK
  · cases ho

theorem alloc_eq (w : World) (o : Obj) : ({ w with heap := w.heap.push o } : World) = w.alloc o := rfl
theorem heap_new (w : World) (o : Obj) : (w.alloc o).heap[w.heap.size]? = some o := by
  show (w.heap.push o)[w.heap.size]? = some o
  simp
theorem heap_old (w : World) (o : Obj) {k : Nat} (h : k < w.heap.size) : (w.alloc o).heap[k]? = w.heap[k]? := Below.heap_alloc w o k h

/-- A new block with a variable in it, a pointer to it into the slot. -/
theorem newVarS {o : Oper} {t : Nat} {cs : List AV} {C : Array Value} {e : TypeId} {T1 : Nat → AV} {B1 : Nat → Option Bx} {T2 : Nat → AV} {K : Act → World → Prop} {Q : Exit → Act → World → Prop}
    (hI : Inv w0 A0 N L A T B a w) (hd : o.dst = some t) (hr : (execOp a.eval o).run P w = .ok (.value (.pointer (some ⟨w.heap.size, 0, none⟩))) (w.alloc (.cells C e)))
    (hl : C.size = cs.length) (hc : ∀ (j : Nat) c v, cs[j]? = some c → C[j]? = some v → RV L w A c v)
    (hu : UpsR o.dst [(t, some (.var cs false))] T B T1 B1) (hp : PutR N o.dst (.ptr t 0) T1 B1 T2)
    (hK : ∀ L' A' a' w', Inv w0 A0 N L' A' T2 B1 a' w' → K a' w') : o.wp P a w K Q := by
  cases hu with
  | set hb hd' => exact absurd hd hd'
  | new hd' hb hm h =>
    cases h
    have hlay : ∀ b', B b' ≠ none → upd L.ι t w.heap.size b' = L.ι b' ∧ upd L.hd t undef b' = L.hd b' := fun b' hb' =>
      ⟨upd_ne _ _ (fun e => hb' (e ▸ hb)), upd_ne _ _ (fun e => hb' (e ▸ hb))⟩
    have hA : ∀ g o, A g o → (w.alloc (.cells C e)).cell? ⟨g, o, none⟩ = w.cell? ⟨g, o, none⟩ := fun g o hg => World.cell?_of_block (w := w) (heap_old w _ (hI.Aok g o hg))
    have hI' := hI.adopt (w' := w.alloc (.cells C e)) (b := t) (g := w.heap.size) (hd' := undef) (x := .var cs false) hb rfl rfl rfl (by simp) (fun k hk _ => heap_old w _ hk)
      (fun o ho => absurd (hI.Aok _ o ho) (by omega))
      ⟨C, e, by simp only [upd_same]; exact heap_new w _, hl, fun j c v h1 h2 => (hc j c v h1 h2).frame (fun _ _ h => h) hA fun b hb' => hlay b (hm b (menL_of_mem (List.mem_of_getElem? h1) hb')),
        fun _ o ho => by simp only [upd_same] at ho; exact absurd (hI.Aok _ o ho) (by omega)⟩
      (fun _ => ⟨hI.below.size, by simp⟩) (fun b' x' hx' hk => by have := (hI.lo b' x' hx' hk).2; omega)
      (fun b' hb' => by
        by_cases e1 : b' = t
        · subst e1; rw [upd_same]; simp
        · rw [upd_ne _ _ e1]; exact hm b' hb')
    refine zarr hr (hK _ _ _ _ (fin hI' ?_ hp))
    have := RV.ptr (L := ⟨upd L.ι t w.heap.size, upd L.hd t undef⟩) (w := w.alloc (.cells C e)) (A := A) t 0
    simpa only [upd_same] using this

theorem s_alloc (hS : TysOk P S) {dst type pos after guard} (e : TypeId) : Sound P S ⟨dst, .alloc e, type, pos, after, guard⟩ := by
  refine ⟨?_⟩
  intro w0 A0 N L A T B a w v ups T1 B1 T2 K Q hI ho hu hp hK
  simp only [eff] at ho
  split at ho
  · rename_i t ti hd ht
    cases ho
    obtain ⟨z, hz, hm⟩ := (hS _ _ ht).run_zero
    obtain ⟨h1, h2⟩ := zmatchL_rv (L := L) (w := w) (A := A) hm
    refine newVarS (C := z.cells) (e := e) hI rfl ?_ (by simp [h1]) (fun j c v hc hv => h2 j c v hc (by simpa using hv)) hu hp hK
    simp [execOp, Instr.alloc, hz, newVar, newRow]
  · cases ho

theorem mapD_some {l : List D} : mapD l = some (l.map .d) := mapD_eq l
theorem partC_cells {v : AV} {l : List AV} (h : partC v = some l) : l = v.cells ∧ v.solid = true := by
  cases v with
  | d x => cases x <;> simp only [partC, mapD_some] at h <;> cases h <;> exact ⟨rfl, rfl⟩
  | _ => simp only [partC] at h <;> cases h <;> exact ⟨rfl, rfl⟩
theorem partC_notTup {v : AV} {l : List AV} {u : Value} (h : partC v = some l) (hv : RV L w A v u) : ∀ vs, u ≠ .tuple vs := by
  intro vs e
  cases hv with
  | d hx => cases hx with
    | tup => simp [partC] at h
    | _ => cases e
  | own b sz n h1 => rw [e] at h1; cases h1
  | undef => cases h
  | junk => cases h
  | _ => cases e

theorem s_box {dst type pos after guard} (e : TypeId) (x : Operand) : Sound P S ⟨dst, .box e x, type, pos, after, guard⟩ := by
  refine ⟨?_⟩
  intro w0 A0 N L A T B a w v ups T1 B1 T2 K Q hI ho hu hp hK
  simp only [eff] at ho
  split at ho
  · rename_i t hd
    split at ho
    · rename_i cs hcs
      cases ho
      obtain ⟨rfl, hs⟩ := partC_cells hcs
      have hrv := resz_rv (S := S) (t := e) (ev_rv hI x)
      obtain ⟨h1, h2, h3⟩ := hrv.cells hs (partC_notTup hcs hrv)
      refine newVarS (C := (a.eval x).cells) (e := e) hI rfl ?_ h1.symm h3 hu hp hK
      simp [execOp, Instr.box, newVar, newRow]
    · cases ho
  · cases ho
end
end Go.Vm
