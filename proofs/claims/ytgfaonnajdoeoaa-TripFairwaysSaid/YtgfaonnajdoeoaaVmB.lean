/- The evaluator: one operation, one region, one body, on abstract states. It names no program; 'P' and the table of types are letters. -/
import Derived.Test.YtgfaonnajdoeoaaVmA
namespace Go.Vm
open Go.RowKit (Below)

/-- Memory of the call's own. 'var': a variable (its cells). 'row': the backing of a slice that the call owns (element type, cells an element, elements). 'fz': nobody writes its present cells any more. -/
inductive Bx where
  | var (cs : List AV) (fz : Bool)
  | row (et sz : Nat) (es : List D) (fz : Bool)
  deriving Inhabited

structure St where
  T : List (Nat × AV)
  bx : List (Nat × Bx)

def lk {α : Type} : List (Nat × α) → Nat → Option α
  | [], _ => none
  | (k, v) :: r, j => match Nat.beq k j with
    | true => some v
    | false => lk r j
/-- Set a key, the continuation last (so that the spine is made at once). -/
def stK {α β : Type} : List (Nat × α) → Nat → α → (List (Nat × α) → β) → β
  | [], j, v, k => k [(j, v)]
  | (i, u) :: r, j, v, k => match Nat.beq i j with
    | true => k ((i, v) :: r)
    | false => stK r j v fun r' => k ((i, u) :: r')

structure TI where
  und : TypeDesc
  size : Nat
  bytes : Nat
  zero : List AV

abbrev Tys := TypeId → Option TI

def isAggT : TypeDesc → Bool
  | .struct _ => true
  | .array _ _ => true
  | _ => false

def constA : Value → AV
  | .int k n => .d (.int k n)
  | .bool b => .d (.bool b)
  | .string s => .d (.str s)
  | .slice none 0 0 => .nil 0
  | _ => .junk

/-- An abstract value, made at once. -/
def forceK {β : Type} (v : AV) (k : AV → β) : β := match v with
  | .d x => k (.d x)
  | .agg cs => k (.agg cs)
  | .ptr b off => k (.ptr b off)
  | .eptr b sz i off => k (.eptr b sz i off)
  | .own b sz n => k (.own b sz n)
  | .nil sz => k (.nil sz)
  | .undef => k .undef
  | .junk => k .junk
theorem forceK_eq {β : Type} (v : AV) (k : AV → β) : forceK v k = k v := by cases v <;> rfl

def St.get (σ : St) (t : Nat) : AV := match lk σ.T t with
  | some v => v
  | none => .junk
def evA (get : Nat → AV) : Operand → AV
  | .tmp t => get t
  | .const v => constA v
  | .func f => .d (.fn f [])
  | .global _ => .junk
def St.ev (σ : St) (x : Operand) : AV := evA σ.get x

/-- What one operation comes to. -/
inductive Res where
  | ok (v : AV) (ups : List (Nat × Option Bx))
  | call (f : FuncId) (args : List D) (ups : List (Nat × Option Bx))
  | need (p : Prop) (r : Res)
  | pick (es : List D) (i : Nat) (k : D → Res)
  | wr (ik : IntKind) (n : Int) (k : Int → Res)
  | bad

def allD : List AV → Option (List D)
  | [] => some []
  | c :: cs => match c with
    | .d x => match allD cs with
      | some xs => some (x :: xs)
      | none => none
    | _ => none
def oneL : List AV → Bool
  | [] => true
  | c :: cs => match c.one with
    | true => oneL cs
    | false => false
/-- A struct or array out of its cells. -/
def mkA (cs : List AV) : AV := match allD cs with
  | some ds => .d (.agg ds)
  | none => .agg cs
def subL {α : Type} : Nat → Nat → List α → Option (List α)
  | _, 0, _ => some []
  | 0, n + 1, c :: cs => match subL 0 n cs with
    | some r => some (c :: r)
    | none => none
  | off + 1, n + 1, _ :: cs => subL off (n + 1) cs
  | _, _ + 1, [] => none
/-- Cells from 'off' on, turned into others. -/
def setL {α : Type} : List α → Nat → List α → Option (List α)
  | cs, 0, [] => some cs
  | _ :: cs, 0, v :: vs => match setL cs 0 vs with
    | some r => some (v :: r)
    | none => none
  | c :: cs, off + 1, vs => match setL cs off vs with
    | some r => some (c :: r)
    | none => none
  | [], _, _ => none

def loadL (ti : TI) (cs : List AV) (off : Nat) : Res :=
  match isAggT ti.und with
  | false => match cs[off]? with
    | some v => match v.solid with
      | true => .ok v []
      | false => .bad
    | none => .bad
  | true => match subL off ti.size cs with
    | some l => match oneL l with
      | true => .ok (mkA l) []
      | false => .bad
    | none => .bad
def loadD (ti : TI) (cs : List D) (off : Nat) : Res :=
  match isAggT ti.und with
  | false => match cs[off]? with
    | some v => .ok (.d v) []
    | none => .bad
  | true => match off with
    | 0 => .need (cs.length = ti.size) (.ok (.d (.agg cs)) [])
    | off + 1 => match subL (off + 1) ti.size cs with
      | some l => .ok (.d (.agg l)) []
      | none => .bad

/-- 'nil' without a size gets that of its type. -/
def resz (S : Tys) (t : TypeId) (v : AV) : AV := match v with
  | .nil 0 => match S t with
    | some ti => match ti.und with
      | .slice e => match S e with
        | some te => .nil te.size
        | none => v
      | _ => v
    | none => v
  | _ => v

/-- Freeze: an abstract value as pure data; the boxes that nobody may overwrite from now on. -/
def frzK (B : Nat → Option Bx) (v : AV) (k : D → List (Nat × Option Bx) → Res) : Res := match v with
  | .d x => k x []
  | .nil sz => k (.sl sz []) []
  | .own b _ _ => match B b with
    | some (.row et sz es _) => k (.sl sz es) [(b, some (.row et sz es true))]
    | _ => .bad
  | _ => .bad
def frzLK (B : Nat → Option Bx) : List AV → (List D → List (Nat × Option Bx) → Res) → Res
  | [], k => k [] []
  | v :: vs, k => frzK B v fun x u => frzLK B vs fun xs us => k (x :: xs) (u ++ us)
def frzAK (B : Nat → Option Bx) (v : AV) (k : D → List (Nat × Option Bx) → Res) : Res := match v with
  | .agg cs => frzLK B cs fun ds us => k (.agg ds) us
  | v => frzK B v k
def frzALK (B : Nat → Option Bx) : List AV → (List D → List (Nat × Option Bx) → Res) → Res
  | [], k => k [] []
  | v :: vs, k => frzAK B v fun x u => frzALK B vs fun xs us => k (x :: xs) (u ++ us)

def zipResz (S : Tys) : List AV → List TypeId → List AV
  | v :: vs, t :: ts => resz S t v :: zipResz S vs ts
  | _, _ => []

/-- '==' of two structs whose fields are numbers, bools and strings. -/
def eqvF (S : Tys) : List Field → Nat → List D → List D → Option Bool
  | [], _, [], [] => some true
  | ⟨_, ft, off, _, _, _, _⟩ :: fs, i, a :: as, b :: bs => match Nat.beq off i, S ft with
    | true, some ⟨und, _, _, _⟩ => match eqvF S fs (i + 1) as bs with
      | some r => match und, a, b with
        | .int _, .int k x, .int k' y => match decide (k = k') with
          | true => some ((x == y) && r)
          | false => none
        | .bool, .bool x, .bool y => some ((x == y) && r)
        | .string, .str x, .str y => some ((x.toList == y.toList) && r)
        | _, _, _ => none
      | none => none
    | _, _ => none
  | _, _, _, _ => none

def isShr : BinOp → Bool
  | .shr => true
  | _ => false
def shrZ (a b : Int) : Int := a / 2 ^ b.toNat
def effBin (op : BinOp) (x y : AV) : Res := match x, y with
  | .d (.int k a), .d (.int k' b) => match isShr op with
   | true => .need (0 ≤ b ∧ b ≤ (k.bits : Int)) (.ok (.d (.int k (shrZ a b))) [])
   | false => match decide (k = k') with
    | false => .bad
    | true => match op with
      | .add => .wr k (a + b) fun z => .ok (.d (.int k z)) []
      | .sub => .wr k (a - b) fun z => .ok (.d (.int k z)) []
      | .mul => .wr k (a * b) fun z => .ok (.d (.int k z)) []
      | .quo => .need (b ≠ 0) (.wr k (a.tdiv b) fun z => .ok (.d (.int k z)) [])
      | .rem => .need (b ≠ 0) (.ok (.d (.int k (a.tmod b))) [])
      | .eql => .ok (.d (.bool (a == b))) []
      | .neq => .ok (.d (.bool (a != b))) []
      | .lss => .ok (.d (.bool (decide (a < b)))) []
      | .leq => .ok (.d (.bool (decide (a ≤ b)))) []
      | .gtr => .ok (.d (.bool (decide (a > b)))) []
      | .geq => .ok (.d (.bool (decide (a ≥ b)))) []
      | _ => .bad
  | .d (.str a), .d (.str b) => match op with
    | .eql => .ok (.d (.bool (a.toList == b.toList))) []
    | .neq => .ok (.d (.bool (!(a.toList == b.toList)))) []
    | .add => .need (((a.size + b.size : Nat) : Int) ≤ 9223372036854775807) (.ok (.d (.str (a ++ b))) [])
    | _ => .bad
  | _, _ => .bad

def isBoolT (S : Tys) (t : TypeId) : Bool := match S t with
  | some ti => match ti.und with
    | .bool => true
    | _ => false
  | none => false
def eqvA (S : Tys) (t : TypeId) (a b : List D) : Option Bool := match S t with
  | some ti => match ti.und with
    | .struct fs => eqvF S fs.toList 0 a b
    | _ => none
  | none => none

def effEq (S : Tys) (t : TypeId) (neg : Bool) (x y : AV) : Res := match x, y with
  | .d (.bool a), .d (.bool b) => match isBoolT S t, neg with
    | true, false => .ok (.d (.bool (a == b))) []
    | true, true => .ok (.d (.bool (!(a == b)))) []
    | false, _ => .bad
  | .d (.agg a), .d (.agg b) => match eqvA S t a b, neg with
    | some r, false => .ok (.d (.bool r)) []
    | some r, true => .ok (.d (.bool (!r))) []
    | none, _ => .bad
  | _, _ => .bad

def effEq2 (S : Tys) (t : TypeId) (neg : Bool) (x y : AV) : Res := match x with
  | .d (.bool _) => effEq S t neg x y
  | .d (.agg _) => effEq S t neg x y
  | _ => match neg with
    | true => effBin .neq x y
    | false => effBin .eql x y

def fieldOf (S : Tys) (t : TypeId) (f : Nat) : Option (Nat × TypeId × Nat) := match S t with
  | some ti => match ti.und with
    | .struct fs => match fs.toList[f]? with
      | some ⟨_, ft, fo, _, _, _, _⟩ => match S ft with
        | some ⟨_, size, _, _⟩ => match size with
          | 0 => none
          | n + 1 => some (fo, ft, n + 1)
        | none => none
      | none => none
    | _ => none
  | none => none

/-- 'l.map .d', made at once. -/
def mapD : List D → Option (List AV)
  | [] => some []
  | x :: xs => match mapD xs with
    | some r => some (.d x :: r)
    | none => none
theorem mapD_eq : ∀ l : List D, mapD l = some (l.map .d)
  | [] => rfl
  | x :: xs => by simp [mapD, mapD_eq xs]
/-- Cells of a part of a literal. -/
def partC (v : AV) : Option (List AV) := match v with
  | .d (.agg l) => mapD l
  | .d (.tup _) => none
  | .d x => some [.d x]
  | .agg l => some l
  | .ptr b o => some [.ptr b o]
  | .own b s n => some [.own b s n]
  | .nil s => some [.nil s]
  | _ => none
def fillL (S : Tys) (t : TypeId) (ρ : Operand → AV) : List AV → List (Nat × Operand) → Option (List AV)
  | cs, [] => some cs
  | cs, (i, x) :: ps => match fieldOf S t i with
    | some (off, ft, n) => match partC (resz S ft (ρ x)) with
      | some l => match Nat.beq l.length n with
        | true => match setL cs off l with
          | some cs' => fillL S t ρ cs' ps
          | none => none
        | false => none
      | none => none
    | none => none
/-- An array's literal: elements of one cell. -/
def fillArr (S : Tys) (e : TypeId) (ρ : Operand → AV) : List AV → List (Nat × Operand) → Option (List AV)
  | cs, [] => some cs
  | cs, (i, x) :: ps => match partC (resz S e (ρ x)) with
    | some [v] => match setL cs i [v] with
      | some cs' => fillArr S e ρ cs' ps
      | none => none
    | _ => none

/-- An element as pure data, out of its cells. -/
def elemD (agg : Bool) (cs : List D) : Option D := match agg with
  | true => some (.agg cs)
  | false => match cs with
    | [x] => match x.one with
      | true => some x
      | false => none
    | _ => none
def fillE (S : Tys) (B : Nat → Option Bx) (e : TypeId) (size : Nat) (ρ : Operand → AV) : List D → List (Nat × Operand) → List (Nat × Option Bx) → (List D → List (Nat × Option Bx) → Res) → Res
  | es, [], us, k => k es us
  | es, (i, x) :: ps, us, k => frzAK B (resz S e (ρ x)) fun d u => match Nat.beq d.cells.length size, d.flat with
    | true, true => match setL es i [d] with
      | some es' => fillE S B e size ρ es' ps (us ++ u) k
      | none => .bad
    | _, _ => .bad

def bAt (s : ByteArray) (i : Nat) : Int := match s.data.toList[i]? with
  | some b => (b.toNat : Int)
  | none => 0

/-- '[]byte(s)' as data. -/
def bytesD (s : ByteArray) : List D := s.data.toList.map fun b => .int .u8 (b.toNat : Int)
def isBytes (S : Tys) (s e : TypeId) : Bool := match S s, S e with
  | some a, some b => match a.und, b.und with
    | .string, .int .u8 => true
    | _, _ => false
  | _, _ => false

def loI : Option AV → (Int → Res) → Res
  | none, k => k 0
  | some (.d (.int _ n)), k => k n
  | _, _ => .bad
def hiI (len : Nat) : Option AV → (Int → Res) → Res
  | none, k => k (len : Int)
  | some (.d (.int _ n)), k => k n
  | _, _ => .bad

/-- The elements of an append's source. -/
def srcK (B : Nat → Option Bx) (sz : Nat) (v : AV) (k : List D → Res) : Res := match v with
  | .d (.sl sz' es) => match Nat.beq sz' sz with
    | true => k es
    | false => .bad
  | .nil _ => k []
  | .own b _ _ => match B b with
    | some (.row _ sz' es _) => match Nat.beq sz' sz with
      | true => k es
      | false => .bad
    | _ => .bad
  | _ => .bad
def oldK (B : Nat → Option Bx) (e sz : Nat) (v : AV) (k : List D → Bool → List (Nat × Option Bx) → Res) : Res := match v with
  | .nil _ => k [] false []
  | .own b _ _ => match B b with
    | some (.row e' sz' es fz) => match Nat.beq e' e, Nat.beq sz' sz with
      | true, true => k es fz [(b, none)]
      | _, _ => .bad
    | _ => .bad
  | _ => .bad

def minI (a b : Int) : Int := if b < a then b else a
def maxI (a b : Int) : Int := if a < b then b else a
def foldI (f : Int → Int → Int) : Int → List AV → Option Int
  | a, [] => some a
  | a, v :: vs => match v with
    | .d (.int .i64 b) => foldI f (f a b) vs
    | _ => none

/-- One operation. 'ρ' reads its operands, 'B' the boxes; 't' is its slot. -/
def eff (S : Tys) (o : Oper) (ρ : Operand → AV) (B : Nat → Option Bx) : Res := match o.op with
  | .move x => .ok (ρ x) []
  | .assign x => .ok (resz S o.type (ρ x)) []
  | .pick c a b => match ρ c with
    | .d (.bool t) => match t with
      | true => .ok (ρ a) []
      | false => .ok (ρ b) []
    | _ => .bad
  | .alloc T => match o.dst, S T with
    | some t, some ti => .ok (.ptr t 0) [(t, some (.var ti.zero false))]
    | _, _ => .bad
  | .box T x => match o.dst with
    | some t => match partC (resz S T (ρ x)) with
      | some cs => .ok (.ptr t 0) [(t, some (.var cs false))]
      | none => .bad
    | none => .bad
  | .build T ps => match S T with
    | some ti => match ti.und with
      | .struct _ => match fillL S T ρ ti.zero ps.toList with
        | some cs => match oneL cs with
          | true => .ok (mkA cs) []
          | false => .bad
        | none => .bad
      | .array _ e => match S e with
        | some te => match Nat.beq te.size 1, fillArr S e ρ ti.zero ps.toList with
          | true, some cs => match oneL cs with
            | true => .ok (mkA cs) []
            | false => .bad
          | _, _ => .bad
        | none => .bad
      | _ => .bad
    | none => .bad
  | .buildSlice T n ps => match o.dst, S T with
    | some t, some ti => match ti.und with
      | .slice e => match S e with
        | some te => match Nat.ble (n * te.size) 16777216, te.size with
          | true, sz + 1 => match frzZero te with
            | some z => match z.flat with
              | true => fillE S B e (sz + 1) ρ (List.replicate n z) ps.toList [] fun es us => .ok (.own t (sz + 1) n) (us ++ [(t, some (.row e (sz + 1) es false))])
              | false => .bad
            | none => .bad
          | _, _ => .bad
        | none => .bad
      | _ => .bad
    | _, _ => .bad
  | .makeSlice T n c => match o.dst, S T, ρ n, ρ c with
    | some t, some ti, .d (.int .i64 n), .d (.int .i64 c) => match ti.und with
      | .slice e => match S e with
        | some te => match te.size with
          | 0 => .bad
          | sz + 1 => match frzZero te with
            | some z => match z.flat with
              | true => .need (n = c ∧ 0 ≤ n ∧ n * (te.bytes : Int) ≤ 140737488355328 ∧ n ≤ 140737488355328) (.ok (.own t (sz + 1) n.toNat) [(t, some (.row e (sz + 1) (List.replicate n.toNat z) false))])
              | false => .bad
            | none => .bad
        | none => .bad
      | _ => .bad
    | _, _, _, _ => .bad
  | .load T x => match S T with
    | some ti => match ρ x with
      | .ptr b off => match B b with
        | some (.var cs _) => loadL ti cs off
        | _ => .bad
      | .eptr b sz i off => match B b with
        | some (.row _ sz' es _) => match Nat.beq sz sz' with
          | true => .pick es i fun e => loadD ti e.cells off
          | false => .bad
        | _ => .bad
      | .d (.ref cs off) => loadD ti cs off
      | _ => .bad
    | none => .bad
  | .store T x y => match S T with
    | some ti => match partC (resz S T (ρ y)) with
      | some l => .need (l.length = ti.size) (match ρ x with
        | .ptr b off => match B b with
          | some (.var cs false) => match setL cs off l with
            | some cs' => .ok .undef [(b, some (.var cs' false))]
            | none => .bad
          | _ => .bad
        | .eptr b sz' i off => match B b with
          | some (.row et sz es false) => match Nat.beq sz' sz, allD l with
            | true, some ds => .pick es i fun e => match e with
              | .agg cs => match setL cs off ds with
                | some cs' => .ok .undef [(b, some (.row et sz (es.set i (.agg cs')) false))]
                | none => .bad
              | _ => match off, ds with
                | 0, [x] => .ok .undef [(b, some (.row et sz (es.set i x) false))]
                | _, _ => .bad
            | _, _ => .bad
          | _ => .bad
        | _ => .bad)
      | none => .bad
    | none => .bad
  | .binOp op T x y _ => match op with
    | .eql => effEq2 S T false (ρ x) (ρ y)
    | .neq => effEq2 S T true (ρ x) (ρ y)
    | op => effBin op (ρ x) (ρ y)
  | .unOp op _ x => match op, ρ x with
    | .not, .d (.bool b) => .ok (.d (.bool (!b))) []
    | .neg, .d (.int k n) => .wr k (0 - n) fun z => .ok (.d (.int k z)) []
    | _, _ => .bad
  | .convert s T x => match S s, S T, ρ x with
    | some _, some ti, .d (.int _ n) => match ti.und with
      | .int k => .wr k n fun z => .ok (.d (.int k z)) []
      | _ => .bad
    | some _, some ti, .d (.str b) => match ti.und with
      | .string => .ok (.d (.str b)) []
      | .slice e => match isBytes S s e with
        | true => .ok (.d (.sl 1 (bytesD b))) []
        | false => .bad
      | _ => .bad
    | _, _, _ => .bad
  | .fieldAddr T x f => match fieldOf S T f with
    | some (fo, _, _) => match ρ x with
      | .ptr b off => .ok (.ptr b (off + fo)) []
      | .eptr b sz i off => .ok (.eptr b sz i (off + fo)) []
      | .d (.ref cs off) => .ok (.d (.ref cs (off + fo))) []
      | _ => .bad
    | none => .bad
  | .field T x f => match fieldOf S T f with
    | some (fo, ft, n) => match S ft with
      | some tf => match ρ x, isAggT tf.und with
        | .d (.agg cs), false => match cs[fo]? with
          | some v => .ok (.d v) []
          | none => .bad
        | .d (.agg cs), true => match subL fo n cs with
          | some l => .ok (.d (.agg l)) []
          | none => .bad
        | _, _ => .bad
      | none => .bad
    | none => .bad
  | .indexAddr T x i => match S T, ρ i with
    | some ti, .d (.int _ n) => match ti.und, ρ x with
      | .slice e, .d (.sl sz es) => match S e with
        | some te => match Nat.beq te.size sz with
          | true => .need (0 ≤ n) (.pick es n.toNat fun v => .ok (.d (.ref v.cells 0)) [])
          | false => .bad
        | none => .bad
      | .slice e, .own b sz _ => match S e with
        | some te => match B b with
          | some (.row _ sz' es _) => match Nat.beq te.size sz, Nat.beq sz sz' with
            | true, true => .need (0 ≤ n ∧ n < (es.length : Int)) (.ok (.eptr b sz n.toNat 0) [])
            | _, _ => .bad
          | _ => .bad
        | none => .bad
      | .array len e, .ptr b off => match S e with
        | some te => .need (0 ≤ n ∧ n < (len : Int)) (.ok (.ptr b (off + n.toNat * te.size)) [])
        | none => .bad
      | .array len e, .d (.ref cs off) => match S e with
        | some te => .need (0 ≤ n ∧ n < (len : Int)) (.ok (.d (.ref cs (off + n.toNat * te.size))) [])
        | none => .bad
      | _, _ => .bad
    | _, _ => .bad
  | .index T x i => match S T, ρ i with
    | some ti, .d (.int _ n) => match ti.und, ρ x with
      | .string, .d (.str s) => .need (0 ≤ n ∧ n < (s.size : Int)) (.ok (.d (.int .u8 (bAt s n.toNat))) [])
      | .array len e, .d (.agg cs) => match S e with
        | some te => match isAggT te.und with
          | false => match Nat.beq te.size 1 with
            | true => .need (0 ≤ n ∧ n < (len : Int)) (.pick cs n.toNat fun v => .ok (.d v) [])
            | false => .bad
          | true => .bad
        | none => .bad
      | _, _ => .bad
    | _, _ => .bad
  | .slice T x lo hi mx => match S T, mx with
    | some ti, none => match ti.und, ρ x with
      | .string, .d (.str s) => loI (lo.map ρ) fun l => hiI s.size (hi.map ρ) fun h => .need (0 ≤ l ∧ l ≤ h ∧ h ≤ (s.size : Int)) (.ok (.d (.str (s.extract l.toNat h.toNat))) [])
      | .slice e, .d (.sl sz es) => match S e with
        | some te => match Nat.beq te.size sz with
          | true => loI (lo.map ρ) fun l => hiI es.length (hi.map ρ) fun h => .need (0 ≤ l ∧ l ≤ h ∧ h ≤ (es.length : Int)) (.ok (.d (.sl sz ((es.take h.toNat).drop l.toNat))) [])
          | false => .bad
        | none => .bad
      | _, _ => .bad
    | _, _ => .bad
  | .extract x i => match ρ x with
    | .d (.tup cs) => match cs[i]? with
      | some v => .ok (.d v) []
      | none => .bad
    | _ => .bad
  | .makeFunc fn first caps => match fn, first.toList with
    | .func f, [] => capsK B (caps.toList.map ρ) fun ds us => .ok (.d (.fn f ds)) us
    | _, _ => .bad
  | .call c => match c.callee with
    | .builtin .len => match c.args.toList.map ρ, c.argTypes.toList with
      | [v], T :: _ => match S T with
        | some ti => match ti.und, v with
          | .slice _, .d (.sl _ es) => .ok (.d (.int .i64 (es.length : Int))) []
          | .slice _, .own b _ _ => match B b with
            | some (.row _ _ es _) => .ok (.d (.int .i64 (es.length : Int))) []
            | _ => .bad
          | .slice _, .nil _ => .ok (.d (.int .i64 0)) []
          | .string, .d (.str s) => .ok (.d (.int .i64 (s.size : Int))) []
          | .array n _, _ => .ok (.d (.int .i64 (n : Int))) []
          | _, _ => .bad
        | none => .bad
      | _, _ => .bad
    | .builtin .min => match c.args.toList.map ρ with
      | .d (.int .i64 a) :: vs => match foldI minI a vs with
        | some z => .ok (.d (.int .i64 z)) []
        | none => .bad
      | _ => .bad
    | .builtin .max => match c.args.toList.map ρ with
      | .d (.int .i64 a) :: vs => match foldI maxI a vs with
        | some z => .ok (.d (.int .i64 z)) []
        | none => .bad
      | _ => .bad
    | .builtin .append => match o.dst, c.args.toList.map ρ, c.argTypes.toList with
      | some t, [s, x], [T, T'] => match Nat.beq T T', S T with
        | true, some ti => match ti.und with
          | .slice e => match S e with
            | some te => match te.size with
              | 0 => .bad
              | sz + 1 => oldK B e (sz + 1) s fun old fz kill => srcK B (sz + 1) x fun new =>
                .need ((old.length + new.length) * te.bytes ≤ 140737488355328 ∧ old.length + new.length ≤ 140737488355328)
                  (.ok (.own t (sz + 1) (old.length + new.length)) (kill ++ [(t, some (.row e (sz + 1) (old ++ new) fz))]))
            | none => .bad
          | _ => .bad
        | _, _ => .bad
      | _, _, _ => .bad
    | .value f => match ρ f with
      | .d (.fn f caps) => match Nat.beq c.args.size c.argTypes.size with
        | true => frzALK B (zipResz S (c.args.toList.map ρ) c.argTypes.toList) fun l us => .call f (l ++ caps) us
        | false => .bad
      | _ => .bad
    | _ => .bad
  | _ => .bad
where
  frzZero (te : TI) : Option D := match frzZL te.zero with
    | some ds => elemD (isAggT te.und) ds
    | none => none
  frzZL : List AV → Option (List D)
    | [] => some []
    | c :: cs => match frzZL cs with
      | some ds => match c with
        | .d x => some (x :: ds)
        | .nil sz => some (.sl sz [] :: ds)
        | _ => none
      | none => none
  capsK (B : Nat → Option Bx) : List AV → (List D → List (Nat × Option Bx) → Res) → Res
    | [], k => k [] []
    | v :: vs, k => match v with
      | .ptr b 0 => match B b with
        | some (.var cs _) => match allD cs with
          | some ds => match ds.all D.one with
            | true => capsK B vs fun xs us => k (.ref ds 0 :: xs) ((b, some (.var cs true)) :: us)
            | false => .bad
          | none => .bad
        | _ => .bad
      | .d (.ref ds off) => capsK B vs fun xs us => k (.ref ds off :: xs) us
      | _ => .bad
end Go.Vm
