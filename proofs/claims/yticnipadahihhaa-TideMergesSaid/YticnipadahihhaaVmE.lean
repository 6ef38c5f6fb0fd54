/- Each operation does in a world what the evaluator says: the plain ones, memory, calls. -/
import Derived.Test.YticnipadahihhaaVmD
import Derived.Laws.CopyRow
import Derived.Laws.Entries
import Derived.Laws.StructEq
namespace Go.Vm
open Go.RowKit (Below)

/-- Which entry of a map of n entries comes next in a world: a place that was not met. -/
def leftN (n : Nat) (seen : List Nat) : List Nat := (List.range n).filter fun j => !seen.contains j
def candN (n : Nat) (seen : List Nat) : Nat := match leftN n seen with
  | [] => 1
  | l => l.length
def chW (w : World) (n : Nat) (seen : List Nat) : Option Nat := (leftN n seen)[if (Question.mapNext (candN n seen)).forced then 0 else (Question.mapNext (candN n seen)).cut (w.tape w.drawn (.mapNext (candN n seen)))]?
/-- What the walk is not told: the world; whether the slice at hand is nil. -/
structure Orc where
  w : World
  nl : Bool
/-- What an outcome leaves: need, pick, wrap, call and choice resolved. -/
inductive Out (P : Program) (oc : Option Orc) : Res → AV → List (Nat × Option Bx) → Prop
  | ok (v : AV) (ups) : Out P oc (.ok v ups) v ups
  | call {f : FuncId} {args : List D} {r : D} {ups} (h : Ev P f args r) : Out P oc (.call f args ups) (.d r) ups
  | callX {t : Option Nat} {f : FuncId} {xs : List AV} {hs us : List (Nat × Bx)} {v : AV} (h : EvX P f xs hs v us) (hok : (okUs t hs us [] && okXs hs xs && okCl hs hs) = true) : Out P oc (.callX t f xs hs) v (someU us)
  | need {p : Prop} {r : Res} {v : AV} {ups} (hp : p) (h : Out P oc r v ups) : Out P oc (.need p r) v ups
  | pick {es : List D} {i : Nat} {k : D → Res} {e : D} {v : AV} {ups} (he : es[i]? = some e) (h : Out P oc (k e) v ups) : Out P oc (.pick es i k) v ups
  | pickR {rows : List (Option (List D))} {i : Nat} {k : List D → Res} {e : List D} {v : AV} {ups} (he : rows[i]? = some (some e)) (h : Out P oc (k e) v ups) : Out P oc (.pickR rows i k) v ups
  | unM {rows : List (Option (List D))} {k : List (List D) → Res} {rs : List (List D)} {v : AV} {ups} (he : rows = rs.map some) (h : Out P oc (k rs) v ups) : Out P oc (.unM rows k) v ups
  | wr {ik : IntKind} {n z : Int} {k : Int → Res} {v : AV} {ups} (hz : ik.wrap n = z) (h : Out P oc (k z) v ups) : Out P oc (.wr ik n k) v ups
  | altL {a b : Res} {v : AV} {ups} (h : Out P oc a v ups) : Out P oc (.alt a b) v ups
  | altR {a b : Res} {v : AV} {ups} (h : Out P oc b v ups) : Out P oc (.alt a b) v ups
  | hit {es : List (D × D)} {k : D} {hit : D → Res} {miss : Res} {x : D} {v : AV} {ups} (he : mget es k = some x) (h : Out P oc (hit x) v ups) : Out P oc (.look es k hit miss) v ups
  | miss {es : List (D × D)} {k : D} {hit : D → Res} {miss : Res} {v : AV} {ups} (he : mget es k = none) (h : Out P oc miss v ups) : Out P oc (.look es k hit miss) v ups
  | nilY {w : Orc} {es : List D} {a b : Res} {v : AV} {ups} (hw : oc = some w) (hn : w.nl = true) (he : es = []) (h : Out P oc a v ups) : Out P oc (.nilq es a b) v ups
  | nilN {w : Orc} {es : List D} {a b : Res} {v : AV} {ups} (hw : oc = some w) (hn : w.nl = false ∨ es ≠ []) (h : Out P oc b v ups) : Out P oc (.nilq es a b) v ups
  | nxt {w : Orc} {es : List (D × D)} {seen : List Nat} {hit : Nat → D × D → Res} {miss : Res} {v : AV} {ups} (hw : oc = some w)
      (h : Out P oc (match chW w.w es.length seen with
        | some j => match es[j]? with
          | some p => hit j p
          | none => miss
        | none => miss) v ups) : Out P oc (.nxt es seen hit miss) v ups

theorem Out.any {P : Program} {r : Res} {v : AV} {ups} (h : Out P none r v ups) (oc : Option Orc) : Out P oc r v ups := by
  induction h with
  | ok v ups => exact .ok v ups
  | call h => exact .call h
  | callX h hok => exact .callX h hok
  | need hp h ih => exact .need hp ih
  | pick he h ih => exact .pick he ih
  | pickR he h ih => exact .pickR he ih
  | unM he h ih => exact .unM he ih
  | wr hz h ih => exact .wr hz ih
  | altL h ih => exact .altL ih
  | altR h ih => exact .altR ih
  | hit he h ih => exact .hit he ih
  | miss he h ih => exact .miss he ih
  | nilY hw => cases hw
  | nilN hw => cases hw
  | nxt hw => cases hw
theorem chW_none {w : World} {n : Nat} {seen : List Nat} (h : chW w n seen = none) : ∀ j, j < n → j ∈ seen := by
  have h1 := List.getElem?_eq_none_iff.1 h
  have hl : leftN n seen = [] := by
    cases hs : leftN n seen with
    | nil => rfl
    | cons x r =>
      exfalso
      have hc : candN n seen = r.length + 1 := by simp only [candN, hs, List.length_cons]
      rw [hs, hc] at h1
      simp only [List.length_cons] at h1
      split at h1
      · omega
      · exact absurd (Nat.lt_of_le_of_lt h1 (Nat.mod_lt _ (Nat.succ_pos _))) (Nat.lt_irrefl _)
  intro j hj
  have := List.filter_eq_nil_iff.1 hl j (List.mem_range.2 hj)
  simpa using this
theorem chW_some {w : World} {n : Nat} {seen : List Nat} {j : Nat} (h : chW w n seen = some j) : j < n ∧ j ∉ seen := by
  have := List.mem_of_getElem? h
  simp only [leftN, List.mem_filter, List.mem_range, Bool.not_eq_true', List.contains_eq_mem, decide_eq_false_iff_not] at this
  exact this

inductive UpsR (dst : Option Nat) : List (Nat × Option Bx) → (Nat → AV) → (Nat → Option Bx) → (Nat → AV) → (Nat → Option Bx) → Prop
  | nil (T B) : UpsR dst [] T B T B
  | kill {b r T B T' B'} (h : UpsR dst r (killT T b) (killB B b) T' B') : UpsR dst ((b, none) :: r) T B T' B'
  | set {b x r T B T' B'} (hd : isNew dst b = false) (hb : B b ≠ none) (hm : ∀ b', Bx.men b' x = true → B b' ≠ none) (h : UpsR dst r T (upd B b (some x)) T' B') : UpsR dst ((b, some x) :: r) T B T' B'
  | new {b x r T B T' B'} (hd : isNew dst b = true) (hlt : pinned b = false) (hb : B b = none) (hm : ∀ b', Bx.men b' x = true → B b' ≠ none) (h : UpsR dst r T (upd B b (some x)) T' B') : UpsR dst ((b, some x) :: r) T B T' B'

def PutR (N : Nat) (dst : Option Nat) (v : AV) (T : Nat → AV) (B : Nat → Option Bx) (T' : Nat → AV) : Prop := match dst with
  | none => T' = T
  | some t => t < N ∧ (∀ b, v.men b = true → B b ≠ none) ∧ T' = upd T t v

theorem zarr {P : Program} {w : World} {o : Oper} {a : Act} {K : Act → World → Prop} {Q : Exit → Act → World → Prop} {u : Value} {w' : World}
    (hr : (execOp a.eval o).run P w = .ok (.value u) w') (hk : K (a.put o.dst u) w') : o.wp P a w K Q := by
  unfold Oper.wp; rw [hr]; exact hk
theorem zskip {P : Program} {w : World} {o : Oper} {a : Act} {K : Act → World → Prop} {Q : Exit → Act → World → Prop} {w' : World}
    (hr : (execOp a.eval o).run P w = .ok .skip w') (hk : K (a.put o.dst undef) w') : o.wp P a w K Q := by
  unfold Oper.wp; rw [hr]; exact hk

/-- An abstract zero against a value. -/
def zmatch : AV → Value → Bool
  | .d (.int k n), .int k' n' => decide (k = k') && decide (n = n')
  | .d (.bool b), .bool b' => b == b'
  | .d (.str s), .string s' => decide (s = s')
  | .nil _, .slice none 0 0 => true
  | .junk, _ => true
  | _, _ => false
def zmatchL : List AV → List Value → Bool
  | [], [] => true
  | a :: as, v :: vs => zmatch a v && zmatchL as vs
  | _, _ => false
theorem zmatch_rv {L : Lay} {w : World} {A : Sta} {x : AV} {v : Value} (h : zmatch x v = true) : RV L w A x v := by
  unfold zmatch at h
  split at h
  · simp only [Bool.and_eq_true, decide_eq_true_eq] at h; obtain ⟨rfl, rfl⟩ := h; exact .d (.int _ _)
  · simp only [beq_iff_eq] at h; subst h; exact .d (.bool _)
  · simp only [decide_eq_true_eq] at h; subst h; exact .d (.str _)
  · exact .nil _
  · exact .junk _
  · cases h
theorem zmatchL_rv {L : Lay} {w : World} {A : Sta} : ∀ {xs : List AV} {vs : List Value}, zmatchL xs vs = true →
    xs.length = vs.length ∧ ∀ (j : Nat) c v, xs[j]? = some c → vs[j]? = some v → RV L w A c v
  | [], [], _ => ⟨rfl, fun j c v h => by simp at h⟩
  | [], _ :: _, h => by cases h
  | _ :: _, [], h => by cases h
  | x :: xs, v :: vs, h => by
    simp only [zmatchL, Bool.and_eq_true] at h
    obtain ⟨h1, h2⟩ := zmatchL_rv (L := L) (w := w) (A := A) h.2
    refine ⟨by simp [h1], fun j c u hc hu => ?_⟩
    cases j with
    | zero => simp only [List.getElem?_cons_zero, Option.some.injEq] at hc hu; subst hc; subst hu; exact zmatch_rv h.1
    | succ j => simp only [List.getElem?_cons_succ] at hc hu; exact h2 j c u hc hu

/-- The table of types is the program's. -/
structure TyOk (P : Program) (t : TypeId) (ti : TI) : Prop where
  und : P.underlying t = some ti.und
  zlen : ti.zero.length = ti.size
  held : ∀ fs, ti.und = .struct fs → P.stoodInHeld t = false ∧ ∀ f ∈ fs.toList, f.name ≠ "_" ∧ (P.info? f.type).isSome = true
  agg : ∀ i z, P.info? t = some i → i.zero = some z → match isAggT ti.und with
    | true => ∃ vs, z = .agg vs
    | false => z.oneCell' = true
  info : ∃ i z, P.info? t = some i ∧ i.size = ti.size ∧ i.bytes = ti.bytes ∧ i.zero = some z ∧ zmatchL ti.zero z.cells.toList = true
def TysOk (P : Program) (S : Tys) : Prop := ∀ t ti, S t = some ti → TyOk P t ti

def heldT (P : Program) (t : TypeId) : TypeDesc → Bool
  | .struct fs => !P.stoodInHeld t && fs.toList.all fun f => f.name != "_" && (P.info? f.type).isSome
  | _ => true
def sizesOf (P : Program) (t : TypeId) : Option (Nat × Nat) := (P.info? t).map fun i => (i.size, i.bytes)
def zeroOf (P : Program) (t : TypeId) : List Value := match (P.info? t).bind (·.zero) with
  | some z => z.cells.toList
  | none => []
def aggOk (P : Program) (t : TypeId) (d : TypeDesc) : Bool := match (P.info? t).bind (·.zero) with
  | some z => match isAggT d, z with
    | true, .agg _ => true
    | true, _ => false
    | false, z => z.oneCell'
  | none => true
theorem tysOk_of {P : Program} (tbl : List (Nat × TI)) (h1 : tbl.map (fun p => P.underlying p.1) = tbl.map (fun p => some p.2.und))
    (h2 : tbl.map (fun p => sizesOf P p.1) = tbl.map (fun p => some (p.2.size, p.2.bytes)))
    (h3 : (tbl.all fun p => Nat.beq p.2.zero.length p.2.size && heldT P p.1 p.2.und && (((P.info? p.1).bind (·.zero)).isSome && zmatchL p.2.zero (zeroOf P p.1) && aggOk P p.1 p.2.und)) = true) : TysOk P (lk tbl) := by
  have mem : ∀ (l : List (Nat × TI)) t ti, lk l t = some ti → (t, ti) ∈ l := by
    intro l
    induction l with
    | nil => intro t ti h; cases h
    | cons p r ih =>
      intro t ti h
      obtain ⟨k, v⟩ := p
      simp only [lk] at h
      cases e : Nat.beq k t with
      | true =>
        rw [e] at h
        simp only [Option.some.injEq] at h
        have := Nat.eq_of_beq_eq_true e
        subst this; subst h
        exact List.mem_cons_self
      | false =>
        rw [e] at h
        exact List.mem_cons_of_mem _ (ih t ti h)
  intro t ti hS
  have hm := mem tbl t ti hS
  have g1 := List.map_inj_left.1 h1 _ hm
  have g2 := List.map_inj_left.1 h2 _ hm
  have g3 := (List.all_eq_true.1 h3) _ hm
  rw [Bool.and_eq_true, Bool.and_eq_true] at g3
  refine ⟨g1, Nat.eq_of_beq_eq_true g3.1.1, ?_, ?_, ?_⟩
  · intro fs hfs
    have := g3.1.2
    rw [hfs] at this
    simp only [heldT, Bool.and_eq_true, Bool.not_eq_true', List.all_eq_true, bne_iff_ne] at this
    exact this
  · intro i z hi hz
    have h := g3.2
    simp only [Bool.and_eq_true] at h
    have h := h.2
    simp only [aggOk, hi, Option.bind_some, hz] at h
    cases ha : isAggT ti.und with
    | true =>
      simp only [ha] at h
      split at h
      · exact ⟨_, rfl⟩
      · cases h
      · rename_i hc; cases hc
    | false =>
      simpa only [ha] using h
  replace g3 := g3.2
  rw [Bool.and_eq_true] at g3
  replace g3 := g3.1
  simp only [sizesOf, Option.map_eq_some_iff] at g2
  obtain ⟨i, hi, he⟩ := g2
  simp only [Prod.mk.injEq] at he
  simp only [Bool.and_eq_true, zeroOf, hi, Option.bind_some] at g3
  obtain ⟨g3, g4⟩ := g3
  obtain ⟨z, hz⟩ := Option.isSome_iff_exists.1 g3
  rw [hz] at g4
  exact ⟨i, z, hi, he.1, he.2, hz, g4⟩

section
variable {P : Program} {S : Tys}
theorem TyOk.run_und {t : TypeId} {ti : TI} (h : TyOk P t ti) (w : World) : (underlying t).run P w = .ok ti.und w := run_underlying h.und w
theorem TyOk.run_size {t : TypeId} {ti : TI} (h : TyOk P t ti) (w : World) : (sizeOf t).run P w = .ok ti.size w := by
  obtain ⟨i, z, hi, h1, _⟩ := h.info
  simp [sizeOf, typeInfo, hi, h1]
theorem TyOk.run_zero {t : TypeId} {ti : TI} (h : TyOk P t ti) : ∃ z, (∀ w, (zeroValue t).run P w = .ok z w) ∧ zmatchL ti.zero z.cells.toList = true := by
  obtain ⟨i, z, hi, _, _, hz, hm⟩ := h.info
  exact ⟨z, fun w => by simp [zeroValue, typeInfo, hi, hz], hm⟩
theorem TyOk.sizeMap {t : TypeId} {ti : TI} (h : TyOk P t ti) : (P.info? t).map (·.size) = some ti.size := by
  obtain ⟨i, z, hi, h1, _⟩ := h.info
  simp [hi, h1]
theorem TyOk.run_isAgg {t : TypeId} {ti : TI} (h : TyOk P t ti) (w : World) : (isAgg t).run P w = .ok (isAggT ti.und) w := by
  simp only [isAgg, Sem.run_bind, h.run_und, Result.andThen_ok]
  cases ti.und <;> rfl

variable {w0 : Ent} {A0 : Sta} {N : Nat} {L : Lay} {A : Sta} {T : Nat → AV} {B : Nat → Option Bx} {a : Act} {w : World}

theorem const_rv (v : Value) : RV L w A (constA v) v := by
  unfold constA
  split
  · exact .d (.int _ _)
  · exact .d (.bool _)
  · exact .d (.str _)
  · exact .nil 0
  · exact .junk _
theorem ev_rv (h : Inv w0 A0 N L A T B a w) (x : Operand) : RV L w A (evA T x) (a.eval x) := by
  cases x with
  | tmp t => exact h.tm t
  | const v => exact const_rv v
  | global g => exact .junk _
  | func f => exact .d (.fn rfl fun j c v hc => by simp at hc)
theorem ev_cl (h : Inv w0 A0 N L A T B a w) (x : Operand) : ∀ b, (evA T x).men b = true → B b ≠ none := by
  cases x with
  | tmp t => exact h.clT t
  | const v =>
    intro b hb
    simp only [evA, constA] at hb
    split at hb <;> cases hb
  | global g => intro b hb; cases hb
  | func f => intro b hb; cases hb
theorem resz_or (t : TypeId) (v : AV) : resz S t v = v ∨ ∃ n m, v = .nil n ∧ resz S t v = .nil m := by
  unfold resz
  split
  · split
    · split
      · split
        · exact .inr ⟨_, _, rfl, rfl⟩
        · exact .inl rfl
      · exact .inl rfl
    · exact .inl rfl
  · exact .inl rfl
theorem resz_rv {t : TypeId} {v : AV} {u : Value} (h : RV L w A v u) : RV L w A (resz S t v) u := by
  rcases resz_or (S := S) t v with e | ⟨n, m, e1, e2⟩
  · rw [e]; exact h
  · rw [e2]; rw [e1] at h; cases h; exact .nil m
theorem resz_cl {t : TypeId} {v : AV} (h : ∀ b, v.men b = true → B b ≠ none) : ∀ b, (resz S t v).men b = true → B b ≠ none := by
  rcases resz_or (S := S) t v with e | ⟨n, m, e1, e2⟩
  · rw [e]; exact h
  · rw [e2]; intro b hb; cases hb

/-- Is the slice at hand nil? Where there are two (append): is there room? -/
def nilV (a : Act) (o : Oper) : Bool := match o.op with
  | .binOp _ _ x _ _ => match a.eval x with
    | .slice p _ _ => p.isNone
    | _ => false
  | .call c => match c.args.toList with
    | [s, x] => match a.eval s, a.eval x with
      | .slice _ n c, .slice _ m _ => Nat.ble (n + m) c
      | _, _ => false
    | _ => false
  | _ => false
structure Sound (P : Program) (S : Tys) (o : Oper) : Prop where
  run : ∀ {w0 : Ent} {A0 : Sta} {N : Nat} {L : Lay} {A : Sta} {T : Nat → AV} {B : Nat → Option Bx} {a : Act} {w : World} {v : AV} {ups : List (Nat × Option Bx)}
    {T1 : Nat → AV} {B1 : Nat → Option Bx} {T2 : Nat → AV} {K : Act → World → Prop} {Q : Exit → Act → World → Prop} {oc : Option Orc} {dr : Bool}, oc = some ⟨w, nilV a o⟩ →
    Inv w0 A0 N L A T B a w → Out P oc (eff S dr o (evA T) B) v ups → UpsR o.dst ups T B T1 B1 → PutR N o.dst v T1 B1 T2 →
    (∀ L' A' a' w', Inv w0 A0 N L' A' T2 B1 a' w' → K a' w') → o.wp P a w K Q

theorem fin {dst : Option Nat} {v : AV} {u : Value} {T2 : Nat → AV} (h : Inv w0 A0 N L A T B a w) (hv : RV L w A v u) (hp : PutR N dst v T B T2) :
    Inv w0 A0 N L A T2 B (a.put dst u) w := by
  cases dst with
  | none => simp only [PutR] at hp; subst hp; exact h
  | some t =>
    obtain ⟨h1, h2, rfl⟩ := hp
    exact h.put h1 hv h2
/-- A value, nothing written. -/
theorem pureV {o : Oper} {v : AV} {u : Value} {T1 : Nat → AV} {B1 : Nat → Option Bx} {T2 : Nat → AV} {K : Act → World → Prop} {Q : Exit → Act → World → Prop}
    (h : Inv w0 A0 N L A T B a w) (hr : (execOp a.eval o).run P w = .ok (.value u) w) (hv : RV L w A v u) (hu : UpsR o.dst [] T B T1 B1)
    (hp : PutR N o.dst v T1 B1 T2) (hK : ∀ L' A' a' w', Inv w0 A0 N L' A' T2 B1 a' w' → K a' w') : o.wp P a w K Q := by
  cases hu
  exact zarr hr (hK _ _ _ _ (fin h hv hp))

theorem s_move {dst type pos after guard} (x : Operand) : Sound P S ⟨dst, .move x, type, pos, after, guard⟩ := by
  refine ⟨?_⟩
  intro w0 A0 N L A T B a w v ups T1 B1 T2 K Q oc dr hoc hI ho hu hp hK
  simp only [eff] at ho
  cases ho
  exact pureV hI rfl (ev_rv hI x) hu hp hK
theorem s_assign {dst type pos after guard} (x : Operand) : Sound P S ⟨dst, .assign x, type, pos, after, guard⟩ := by
  refine ⟨?_⟩
  intro w0 A0 N L A T B a w v ups T1 B1 T2 K Q oc dr hoc hI ho hu hp hK
  simp only [eff] at ho
  cases ho
  exact pureV hI rfl (resz_rv (ev_rv hI x)) hu hp hK
theorem rv_bool {t : Bool} {u : Value} (h : RV L w A (.d (.bool t)) u) : u = .bool t := by cases h with | d h => cases h; rfl
theorem rv_int {k : IntKind} {n : Int} {u : Value} (h : RV L w A (.d (.int k n)) u) : u = .int k n := by cases h with | d h => cases h; rfl
theorem rv_str {s : ByteArray} {u : Value} (h : RV L w A (.d (.str s)) u) : u = .string s := by cases h with | d h => cases h; rfl
theorem rv_ptr {b off : Nat} {u : Value} (h : RV L w A (.ptr b off) u) : u = .pointer (some ⟨L.ι b, off, none⟩) := by cases h; rfl
theorem rv_eptr {b sz i off : Nat} {u : Value} (h : RV L w A (.eptr b sz i off) u) : u = .pointer (some ⟨L.ι b, i * sz + off, none⟩) := by cases h; rfl
theorem rv_own {b sz n : Nat} {u : Value} (h : RV L w A (.own b sz n) u) : u = L.hd b := by cases h; rfl
theorem rv_nil {sz : Nat} {u : Value} (h : RV L w A (.nil sz) u) : u = .slice none 0 0 := by cases h; rfl

theorem rv_refP {cs : List D} {off : Nat} {u : Value} (h : RV L w A (.d (.ref cs off)) u) : ∃ g o : Nat, u = .pointer (some ⟨g, o, none⟩) := by
  cases h with
  | d h => cases h; exact ⟨_, _, rfl⟩
theorem s_nilCheck {dst type pos after guard} (x : Operand) : Sound P S ⟨dst, .nilCheck x, type, pos, after, guard⟩ := by
  refine ⟨?_⟩
  intro w0 A0 N L A T B a w v ups T1 B1 T2 K Q oc dr hoc hI ho hu hp hK
  have hx := ev_rv hI x
  simp only [eff] at ho
  split at ho
  · rename_i b off h
    rw [h] at hx
    cases ho
    exact pureV hI (u := a.eval x) (by simp [execOp, rv_ptr hx]) hx hu hp hK
  · rename_i b sz i off h
    rw [h] at hx
    cases ho
    exact pureV hI (u := a.eval x) (by simp [execOp, rv_eptr hx]) hx hu hp hK
  · rename_i cs off h
    rw [h] at hx
    obtain ⟨g, o, hv⟩ := rv_refP hx
    cases ho
    exact pureV hI (u := a.eval x) (by simp [execOp, hv]) hx hu hp hK
  · cases ho
theorem s_pick {dst type pos after guard} (c x y : Operand) : Sound P S ⟨dst, .pick c x y, type, pos, after, guard⟩ := by
  refine ⟨?_⟩
  intro w0 A0 N L A T B a w v ups T1 B1 T2 K Q oc dr hoc hI ho hu hp hK
  have hc := ev_rv hI c
  simp only [eff] at ho
  split at ho
  · rename_i t ht
    rw [ht] at hc
    have hc := rv_bool hc
    cases t with
    | true => cases ho; exact pureV hI (by simp [execOp, hc, asBool]) (ev_rv hI x) hu hp hK
    | false => cases ho; exact pureV hI (by simp [execOp, hc, asBool]) (ev_rv hI y) hu hp hK
  · cases ho

theorem alloc_eq (w : World) (o : Obj) : ({ w with heap := w.heap.push o } : World) = w.alloc o := rfl
theorem heap_new (w : World) (o : Obj) : (w.alloc o).heap[w.heap.size]? = some o := by
  show (w.heap.push o)[w.heap.size]? = some o
  simp
theorem heap_old (w : World) (o : Obj) {k : Nat} (h : k < w.heap.size) : (w.alloc o).heap[k]? = w.heap[k]? := Below.heap_alloc w o k h

theorem isNew_slot {dst : Option Nat} {t : Nat} (hd : dst = some t) : isNew dst t = true := by
  subst hd
  simp [isNew, freshN]
theorem upsOneNew {dst : Option Nat} {t : Nat} {x : Bx} {T1 : Nat → AV} {B1 : Nat → Option Bx} (hd : dst = some t) (h : UpsR dst [(t, some x)] T B T1 B1) :
    T1 = T ∧ B1 = upd B t (some x) ∧ B t = none ∧ pinned t = false ∧ ∀ b', Bx.men b' x = true → B b' ≠ none := by
  cases h with
  | set hd' => rw [isNew_slot hd] at hd'; cases hd'
  | new _ hlt hb hm h => cases h; exact ⟨rfl, rfl, hb, hlt, hm⟩
theorem lt_of_get' {α : Type} {l : List α} {j : Nat} {c : α} (h : l[j]? = some c) : j < l.length := by
  rcases Nat.lt_or_ge j l.length with h1 | h1
  · exact h1
  · rw [List.getElem?_eq_none h1] at h; cases h
/-- A new block, a pointer to it into the slot. -/
theorem newBoxS {o : Oper} {t : Nat} {x : Bx} {C : Array Value} {e : TypeId} {T1 : Nat → AV} {B1 : Nat → Option Bx} {T2 : Nat → AV} {K : Act → World → Prop} {Q : Exit → Act → World → Prop}
    (hI : Inv w0 A0 N L A T B a w) (hd : o.dst = some t) (hr : (execOp a.eval o).run P w = .ok (.value (.pointer (some ⟨w.heap.size, 0, none⟩))) (w.alloc (.cells C e)))
    (hx : ∀ L', L'.ι t = w.heap.size → (∀ b', x.men b' = true → L'.eqAt L b') → (∀ g o, A g o → (w.alloc (.cells C e)).cell? ⟨g, o, none⟩ = w.cell? ⟨g, o, none⟩) → BR w0.B0 L' (w.alloc (.cells C e)) A t x ∧ ∀ g, own L' t x g → g = w.heap.size)
    (hu : UpsR o.dst [(t, some x)] T B T1 B1) (hp : PutR N o.dst (.ptr t 0) T1 B1 T2)
    (hK : ∀ L' A' a' w', Inv w0 A0 N L' A' T2 B1 a' w' → K a' w') : o.wp P a w K Q := by
  obtain ⟨rfl, rfl, hb, hlt, hm⟩ := upsOneNew hd hu
  have hne : ∀ b', B b' ≠ none → b' ≠ t := fun b' hb' e => hb' (e ▸ hb)
  have hA : ∀ g o, A g o → (w.alloc (.cells C e)).cell? ⟨g, o, none⟩ = w.cell? ⟨g, o, none⟩ := fun g o hg => World.cell?_of_block (w := w) (heap_old w _ (hI.Aok g o hg))
  obtain ⟨k1, k2⟩ := hx (L.at t w.heap.size undef) Lay.at_ι (fun b' hb' => Lay.at_eq (hne b' (hm b' hb'))) hA
  have hI' := hI.adopt (w' := w.alloc (.cells C e)) (b := t) (L' := L.at t w.heap.size undef) (x := x) (fun g => g = w.heap.size) hb hlt rfl .rfl' rfl (by simp) (fun k hk _ => heap_old w _ hk)
    (fun g o hg ho => by subst hg; exact absurd (hI.Aok _ o ho) (by omega)) (fun g hg => by subst hg; exact ⟨.inl hI.below.size, by simp⟩)
    (fun g b' x' hg hx' ho => by subst hg; have := (hI.lo b' x' _ hx' ho).2; omega) (fun b' hb' => Lay.at_eq hb') (fun _ _ => rfl) k1 k2
    (fun b' hb' => by
      by_cases e1 : b' = t
      · subst e1; rw [upd_same]; simp
      · rw [upd_ne _ _ e1]; exact hm b' hb')
  refine zarr hr (hK _ _ _ _ (fin hI' ?_ hp))
  have := RV.ptr (L := L.at t w.heap.size undef) (w := w.alloc (.cells C e)) (A := A) t 0
  simpa only [Lay.at_ι] using this
/-- A new block with a variable in it. -/
theorem newVarS {o : Oper} {t : Nat} {cs : List AV} {C : Array Value} {e : TypeId} {T1 : Nat → AV} {B1 : Nat → Option Bx} {T2 : Nat → AV} {K : Act → World → Prop} {Q : Exit → Act → World → Prop}
    (hI : Inv w0 A0 N L A T B a w) (hd : o.dst = some t) (hr : (execOp a.eval o).run P w = .ok (.value (.pointer (some ⟨w.heap.size, 0, none⟩))) (w.alloc (.cells C e)))
    (hl : C.size = cs.length) (hc : ∀ (j : Nat) c v, cs[j]? = some c → C[j]? = some v → RV L w A c v)
    (hu : UpsR o.dst [(t, some (.var cs false))] T B T1 B1) (hp : PutR N o.dst (.ptr t 0) T1 B1 T2)
    (hK : ∀ L' A' a' w', Inv w0 A0 N L' A' T2 B1 a' w' → K a' w') : o.wp P a w K Q := by
  refine newBoxS (x := .var cs false) hI hd hr (fun L' hι hL hA => ⟨⟨C, e, by rw [hι]; exact heap_new w _, hl, fun j c v h1 h2 => (hc j c v h1 h2).frame (fun _ _ h => h) hA fun b hb' => hL b (menL_of_mem (List.mem_of_getElem? h1) hb'),
    fun _ o ho => by rw [hι] at ho; exact absurd (hI.Aok _ o ho) (by omega)⟩, fun g hg => by rw [← hι]; exact hg⟩) hu hp hK
/-- A new block with an array in it. -/
theorem newArrS {o : Oper} {t : Nat} {es : List D} {C : Array Value} {e : TypeId} {T1 : Nat → AV} {B1 : Nat → Option Bx} {T2 : Nat → AV} {K : Act → World → Prop} {Q : Exit → Act → World → Prop}
    (hI : Inv w0 A0 N L A T B a w) (hd : o.dst = some t) (hr : (execOp a.eval o).run P w = .ok (.value (.pointer (some ⟨w.heap.size, 0, none⟩))) (w.alloc (.cells C e)))
    (hl : C.size = es.length) (h1 : ∀ c ∈ es, c.one = true) (hc : ∀ (j : Nat) c v, es[j]? = some c → C[j]? = some v → Rep w A c v)
    (hu : UpsR o.dst [(t, some (.arr es false))] T B T1 B1) (hp : PutR N o.dst (.ptr t 0) T1 B1 T2)
    (hK : ∀ L' A' a' w', Inv w0 A0 N L' A' T2 B1 a' w' → K a' w') : o.wp P a w K Q := by
  refine newBoxS (x := .arr es false) hI hd hr (fun L' hι hL hA => ⟨⟨C, e, by rw [hι]; exact heap_new w _, hl, h1, fun j c v h1 h2 => (hc j c v h1 h2).frame (fun _ _ h => h) hA,
    fun _ o ho => by rw [hι] at ho; exact absurd (hI.Aok _ o ho) (by omega)⟩, fun g hg => by rw [← hι]; exact hg⟩) hu hp hK

theorem bigTI_spec {ti : TI} {n : Nat} {z : D} (h : bigTI ti = some (n, z)) : ∃ e, ti.und = .array n e ∧ z.one = true ∧ ∃ r, ti.zero = .d z :: r := by
  unfold bigTI at h
  split at h
  · rename_i m e hu
    split at h
    · cases h
    · split at h
      · rename_i z' r hz
        split at h
        · rename_i h1
          cases h
          exact ⟨e, hu, h1, r, hz⟩
        · cases h
      · cases h
  · cases h
theorem bigO_spec {t : TypeId} {n : Nat} (h : bigO S t = some n) : ∃ ti z, S t = some ti ∧ bigTI ti = some (n, z) := by
  unfold bigO at h
  split at h
  · rename_i ti ht
    split at h
    · rename_i z hz; cases h; exact ⟨ti, z, ht, hz⟩
    · cases h
  · cases h

theorem s_alloc (hS : TysOk P S) {dst type pos after guard} (e : TypeId) : Sound P S ⟨dst, .alloc e, type, pos, after, guard⟩ := by
  refine ⟨?_⟩
  intro w0 A0 N L A T B a w v ups T1 B1 T2 K Q oc dr hoc hI ho hu hp hK
  simp only [eff] at ho
  split at ho
  · rename_i t ti ht
    obtain ⟨z, hz, hm⟩ := (hS _ _ ht).run_zero
    obtain ⟨h1, h2⟩ := zmatchL_rv (L := L) (w := w) (A := A) hm
    split at ho
    · rename_i n z' hb
      cases ho with
      | need hn ho =>
        cases ho
        obtain ⟨hn1, hn2⟩ := hn
        have hlen := (hS _ _ ht).zlen
        refine newArrS (C := z.cells) (e := e) hI rfl ?_ (by rw [List.length_replicate, ← hn1, ← hlen, h1]; simp) (fun c hc => ?_) (fun j c v hc hv => ?_) hu hp hK
        · simp [execOp, Instr.alloc, hz, newVar, newRow]
        · rw [List.eq_of_mem_replicate hc]
          exact (bigTI_spec hb).choose_spec.2.1
        · have hj : j < n := by have := lt_of_get' hc; simpa using this
          rw [List.getElem?_replicate, if_pos hj] at hc
          cases hc
          have hz' : ti.zero[j]? = some (AV.d z') := by rw [hn2, List.getElem?_replicate, if_pos hj]
          have := h2 j _ v hz' (by simpa using hv)
          cases this with | d h => exact h
    · cases ho
      refine newVarS (C := z.cells) (e := e) hI rfl ?_ (by simp [h1]) (fun j c v hc hv => h2 j c v hc (by simpa using hv)) hu hp hK
      simp [execOp, Instr.alloc, hz, newVar, newRow]
  · cases ho

theorem mapD_some {l : List D} : mapD l = some (l.map .d) := mapD_eq l
theorem partC_cells {v : AV} {l : List AV} (h : partC v = some l) : l = v.cells ∧ v.solid = true := by
  cases v with
  | d x => cases x <;> simp only [partC, mapD_some] at h <;> cases h <;> exact ⟨rfl, rfl⟩
  | _ => simp only [partC] at h <;> cases h <;> exact ⟨rfl, rfl⟩
theorem partC_notTup {v : AV} {l : List AV} {u : Value} (h : partC v = some l) (hv : RV L w A v u) : ∀ vs, u ≠ .tuple vs := by
  intro vs e
  cases hv with
  | d hx => cases hx with
    | tup => simp [partC] at h
    | _ => cases e
  | own b sz n h1 => rw [e] at h1; cases h1
  | undef => cases h
  | junk => cases h
  | tup => cases h
  | sub => cases h
  | mptr => cases h
  | _ => cases e

theorem s_box {dst type pos after guard} (e : TypeId) (x : Operand) : Sound P S ⟨dst, .box e x, type, pos, after, guard⟩ := by
  refine ⟨?_⟩
  intro w0 A0 N L A T B a w v ups T1 B1 T2 K Q oc dr hoc hI ho hu hp hK
  simp only [eff] at ho
  split at ho
  · rename_i t hd
    split at ho
    · rename_i n hb
      split at ho
      · rename_i l hl
        cases ho with
        | need hn ho =>
          cases ho
          have hx := ev_rv hI x
          rw [hl] at hx
          cases hx with
          | d hx =>
            generalize hv : a.eval x = u at hx
            cases hx with
            | agg q1 q2 q3 =>
              refine newArrS (e := e) hI rfl ?_ q1.symm q2 q3 hu hp hK
              simp [execOp, Instr.box, newVar, newRow, hv, Value.cells]
      · cases ho
    · split at ho
      · rename_i cs hcs
        cases ho
        obtain ⟨rfl, hs⟩ := partC_cells hcs
        have hrv := resz_rv (S := S) (t := e) (ev_rv hI x)
        obtain ⟨h1, h2, h3⟩ := hrv.cells hs (partC_notTup hcs hrv)
        refine newVarS (C := (a.eval x).cells) (e := e) hI rfl ?_ h1.symm h3 hu hp hK
        simp [execOp, Instr.box, newVar, newRow]
      · cases ho
  · cases ho
end
end Go.Vm
