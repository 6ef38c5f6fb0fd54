/- The evaluator: one operation, one region, one body, on abstract states. It names no program; 'P' and the table of types are letters. -/
import Derived.Test.YticnipadahihhaaVmA
namespace Go.Vm
open Go.RowKit (Below)

/-- Memory of the call's own. 'var': a variable (its cells). 'row': the backing of a slice that the call owns (element type, cells an element, elements). 'arr': a big array of one-cell elements. 'mat': a slice of slices of one-cell elements, all of them the call's own ('none': a row whose header has gone stale); v: how often a header was stored. 'fz': nobody writes its present cells any more. 'gone': its blocks have another name now. -/
inductive Bx where
  | var (cs : List AV) (fz : Bool)
  | row (et sz : Nat) (es : List D) (fz : Bool)
  | arr (es : List D) (fz : Bool)
  | mat (et ie v : Nat) (rows : List (Option (List D)))
  | map (kt et : Nat) (kd : TypeDesc) (es : List (D × D))
  | iter (m : Option Nat) (n : Nat) (seen : List Nat)
  | gone
  deriving Inhabited

structure St where
  T : List (Nat × AV)
  bx : List (Nat × Bx)

def lk {α : Type} : List (Nat × α) → Nat → Option α
  | [], _ => none
  | (k, v) :: r, j => match Nat.beq k j with
    | true => some v
    | false => lk r j
/-- Set a key, the continuation last (so that the spine is made at once). -/
def stK {α β : Type} : List (Nat × α) → Nat → α → (List (Nat × α) → β) → β
  | [], j, v, k => k [(j, v)]
  | (i, u) :: r, j, v, k => match Nat.beq i j with
    | true => k ((i, v) :: r)
    | false => stK r j v fun r' => k ((i, u) :: r')

structure TI where
  und : TypeDesc
  size : Nat
  bytes : Nat
  zero : List AV

abbrev Tys := TypeId → Option TI

def isAggT : TypeDesc → Bool
  | .struct _ => true
  | .array _ _ => true
  | _ => false

def constA : Value → AV
  | .int k n => .d (.int k n)
  | .bool b => .d (.bool b)
  | .string s => .d (.str s)
  | .slice none 0 0 => .nil 0
  | _ => .junk

/-- An abstract value, made at once. -/
def forceK {β : Type} (v : AV) (k : AV → β) : β := match v with
  | .d x => k (.d x)
  | .agg cs => k (.agg cs)
  | .tup cs => k (.tup cs)
  | .ptr b off => k (.ptr b off)
  | .eptr b sz i off => k (.eptr b sz i off)
  | .own b sz n => k (.own b sz n)
  | .fnv f cs => k (.fnv f cs)
  | .sptr b sz i j => k (.sptr b sz i j)
  | .sub b v i => k (.sub b v i)
  | .mptr b v i j => k (.mptr b v i j)
  | .mp b => k (.mp b)
  | .view b sz lo hi => k (.view b sz lo hi)
  | .nil sz => k (.nil sz)
  | .undef => k .undef
  | .junk => k .junk
theorem forceK_eq {β : Type} (v : AV) (k : AV → β) : forceK v k = k v := by cases v <;> rfl

def St.get (σ : St) (t : Nat) : AV := match lk σ.T t with
  | some v => v
  | none => .junk
def evA (get : Nat → AV) : Operand → AV
  | .tmp t => get t
  | .const v => constA v
  | .func f => .d (.fn f [])
  | .global _ => .junk
def St.ev (σ : St) (x : Operand) : AV := evA σ.get x

/-- What one operation comes to. 'callX': a call that is handed boxes; 'alt': the walk may choose. -/
inductive Res where
  | ok (v : AV) (ups : List (Nat × Option Bx))
  | call (f : FuncId) (args : List D) (ups : List (Nat × Option Bx))
  | callX (t : Option Nat) (f : FuncId) (xs : List AV) (hs : List (Nat × Bx))
  | need (p : Prop) (r : Res)
  | pick (es : List D) (i : Nat) (k : D → Res)
  | pickR (rows : List (Option (List D))) (i : Nat) (k : List D → Res)
  | unM (rows : List (Option (List D))) (k : List (List D) → Res)
  | wr (ik : IntKind) (n : Int) (k : Int → Res)
  | alt (a b : Res)
  | look (es : List (D × D)) (k : D) (hit : D → Res) (miss : Res)
  | nilq (es : List D) (a b : Res)
  | nxt (es : List (D × D)) (seen : List Nat) (hit : Nat → D × D → Res) (miss : Res)
  | bad

/-- The boxes that a value mentions. -/
def capMens : List Cap → List Nat
  | [] => []
  | c :: r => match c with
    | .box b => b :: capMens r
    | .dat _ => capMens r
def AV.mens1 : AV → List Nat
  | .ptr b _ => [b]
  | .eptr b _ _ _ => [b]
  | .own b _ _ => [b]
  | .fnv _ cs => capMens cs
  | .sptr b _ _ _ => [b]
  | .sub b _ _ => [b]
  | .mptr b _ _ _ => [b]
  | .mp b => [b]
  | .view b _ _ _ => [b]
  | _ => []
def AV.mensL : List AV → List Nat
  | [] => []
  | c :: cs => match c.mens1 with
    | [] => mensL cs
    | b :: r => b :: (r ++ mensL cs)
def AV.mens2 : AV → List Nat
  | .agg cs => AV.mensL cs
  | .ptr b _ => [b]
  | .eptr b _ _ _ => [b]
  | .own b _ _ => [b]
  | .fnv _ cs => capMens cs
  | .sptr b _ _ _ => [b]
  | .sub b _ _ => [b]
  | .mptr b _ _ _ => [b]
  | .mp b => [b]
  | .view b _ _ _ => [b]
  | _ => []
def AV.mensT : List AV → List Nat
  | [] => []
  | c :: cs => match c.mens2 with
    | [] => mensT cs
    | b :: r => b :: (r ++ mensT cs)
def AV.mens : AV → List Nat
  | .agg cs => AV.mensL cs
  | .tup cs => AV.mensT cs
  | .ptr b _ => [b]
  | .eptr b _ _ _ => [b]
  | .own b _ _ => [b]
  | .fnv _ cs => capMens cs
  | .sptr b _ _ _ => [b]
  | .sub b _ _ => [b]
  | .mptr b _ _ _ => [b]
  | .mp b => [b]
  | .view b _ _ _ => [b]
  | _ => []
def Bx.mens : Bx → List Nat
  | .var cs _ => AV.mensL cs
  | .iter m _ _ => match m with
    | some b => [b]
    | none => []
  | _ => []
/-- The boxes that are handed over with some values. -/
def handL (B : Nat → Option Bx) : Nat → List Nat → List (Nat × Bx) → List (Nat × Bx)
  | 0, _, acc => acc
  | _ + 1, [], acc => acc
  | f + 1, b :: r, acc => match lk acc b with
    | some _ => handL B f r acc
    | none => match B b with
      | some x => handL B f (x.mens ++ r) ((b, x) :: acc)
      | none => handL B f r acc
def mensA : List AV → List Nat
  | [] => []
  | c :: cs => c.mens ++ mensA cs
def handed (B : Nat → Option Bx) (xs : List AV) : List (Nat × Bx) := handL B 200 (mensA xs) []

def allD : List AV → Option (List D)
  | [] => some []
  | c :: cs => match c with
    | .d x => match allD cs with
      | some xs => some (x :: xs)
      | none => none
    | _ => none
def oneL : List AV → Bool
  | [] => true
  | c :: cs => match c.one with
    | true => oneL cs
    | false => false
/-- A struct or array out of its cells. -/
def mkA (cs : List AV) : AV := match allD cs with
  | some ds => .d (.agg ds)
  | none => .agg cs
def subL {α : Type} : Nat → Nat → List α → Option (List α)
  | _, 0, _ => some []
  | 0, n + 1, c :: cs => match subL 0 n cs with
    | some r => some (c :: r)
    | none => none
  | off + 1, n + 1, _ :: cs => subL off (n + 1) cs
  | _, _ + 1, [] => none
/-- Cells from 'off' on, turned into others. -/
def setL {α : Type} : List α → Nat → List α → Option (List α)
  | cs, 0, [] => some cs
  | _ :: cs, 0, v :: vs => match setL cs 0 vs with
    | some r => some (v :: r)
    | none => none
  | c :: cs, off + 1, vs => match setL cs off vs with
    | some r => some (c :: r)
    | none => none
  | [], _, _ => none

def loadL (ti : TI) (cs : List AV) (off : Nat) : Res :=
  match isAggT ti.und with
  | false => match cs[off]? with
    | some v => match v.solid with
      | true => .ok v []
      | false => .bad
    | none => .bad
  | true => match subL off ti.size cs with
    | some l => match oneL l with
      | true => .ok (mkA l) []
      | false => .bad
    | none => .bad
def loadD (ti : TI) (cs : List D) (off : Nat) : Res :=
  match isAggT ti.und with
  | false => match cs[off]? with
    | some v => .ok (.d v) []
    | none => .bad
  | true => match off with
    | 0 => .need (cs.length = ti.size) (.ok (.d (.agg cs)) [])
    | off + 1 => match subL (off + 1) ti.size cs with
      | some l => .ok (.d (.agg l)) []
      | none => .bad
def isStr : TypeDesc → Bool
  | .struct _ => true
  | _ => false
/-- A struct at the start of what a pointer names: a part of it. -/
def loadR (ti : TI) (cs : List D) (off : Nat) : Res :=
  match off, isStr ti.und with
  | 0, true => match isAggT ti.und with
    | true => match subL 0 ti.size cs with
      | some l => .ok (.d (.agg l)) []
      | none => .bad
    | false => .bad
  | off, _ => loadD ti cs off

/-- 'nil' without a size gets that of its type. -/
def resz (S : Tys) (t : TypeId) (v : AV) : AV := match v with
  | .nil 0 => match S t with
    | some ti => match ti.und with
      | .slice e => match S e with
        | some te => .nil te.size
        | none => v
      | _ => v
    | none => v
  | _ => v

/-- Freeze what a closure has captured. -/
def frzCap (B : Nat → Option Bx) : List Cap → (List D → List (Nat × Option Bx) → Res) → Res
  | [], k => k [] []
  | c :: r, k => match c with
    | .dat x => frzCap B r fun xs us => k (x :: xs) us
    | .box b => match B b with
      | some (.var cs _) => match allD cs with
        | some ds => match ds.all D.one with
          | true => frzCap B r fun xs us => k (.ref ds 0 :: xs) ((b, some (.var cs true)) :: us)
          | false => .bad
        | none => .bad
      | some (.arr es _) => frzCap B r fun xs us => k (.ref es 0 :: xs) ((b, some (.arr es true)) :: us)
      | _ => .bad
def capL : List AV → Option (List Cap)
  | [] => some []
  | v :: vs => match capL vs with
    | some r => match v with
      | .ptr b 0 => some (.box b :: r)
      | .d x => some (.dat x :: r)
      | _ => none
    | none => none
def capAV : List Cap → List AV
  | [] => []
  | c :: r => match c with
    | .box b => .ptr b 0 :: capAV r
    | .dat x => .d x :: capAV r
/-- Freeze: an abstract value as pure data; the boxes that nobody may overwrite from now on. -/
def frzK (B : Nat → Option Bx) (v : AV) (k : D → List (Nat × Option Bx) → Res) : Res := match v with
  | .d x => k x []
  | .nil sz => k (.sl sz []) []
  | .own b _ _ => match B b with
    | some (.row et sz es _) => k (.sl sz es) [(b, some (.row et sz es true))]
    | some (.mat et _ _ rows) => .unM rows fun rs => k (.sl 1 (rs.map (.sl 1))) [(b, some (.row et 1 (rs.map (.sl 1)) true))]
    | _ => .bad
  | .fnv f cs => frzCap B cs fun ds us => k (.fn f ds) us
  | _ => .bad
def frzLK (B : Nat → Option Bx) : List AV → (List D → List (Nat × Option Bx) → Res) → Res
  | [], k => k [] []
  | v :: vs, k => frzK B v fun x u => frzLK B vs fun xs us => k (x :: xs) (u ++ us)
def frzAK (B : Nat → Option Bx) (v : AV) (k : D → List (Nat × Option Bx) → Res) : Res := match v with
  | .agg cs => frzLK B cs fun ds us => k (.agg ds) us
  | v => frzK B v k
def frzALK (B : Nat → Option Bx) : List AV → (List D → List (Nat × Option Bx) → Res) → Res
  | [], k => k [] []
  | v :: vs, k => frzAK B v fun x u => frzALK B vs fun xs us => k (x :: xs) (u ++ us)

def zipResz (S : Tys) : List AV → List TypeId → List AV
  | v :: vs, t :: ts => resz S t v :: zipResz S vs ts
  | _, _ => []

/-- '==' of two structs whose fields are numbers, bools and strings. -/
def eqvF (S : Tys) : List Field → Nat → List D → List D → Option Bool
  | [], _, [], [] => some true
  | ⟨_, ft, off, _, _, _, _⟩ :: fs, i, a :: as, b :: bs => match Nat.beq off i, S ft with
    | true, some ⟨und, _, _, _⟩ => match eqvF S fs (i + 1) as bs with
      | some r => match und, a, b with
        | .int _, .int k x, .int k' y => match decide (k = k') with
          | true => some ((x == y) && r)
          | false => none
        | .bool, .bool x, .bool y => some ((x == y) && r)
        | .string, .str x, .str y => some ((x.toList == y.toList) && r)
        | _, _, _ => none
      | none => none
    | _, _ => none
  | _, _, _, _ => none

/-- .. that may hold such structs, too. -/
def eqvG (S : Tys) : List Field → Nat → List D → List D → Option Bool
  | [], _, as, bs => match as, bs with
    | [], [] => some true
    | _, _ => none
  | ⟨_, ft, off, _, _, _, _⟩ :: fs, i, as, bs => match Nat.beq off i, S ft with
    | true, some ⟨und, size, _, _⟩ => match und with
      | .struct gs => match eqvF S gs.toList 0 (as.take size) (bs.take size), eqvG S fs (i + size) (as.drop size) (bs.drop size) with
        | some q, some r => some (q && r)
        | _, _ => none
      | und => match as, bs with
        | a :: as, b :: bs => match eqvG S fs (i + 1) as bs with
          | some r => match und, a, b with
            | .int _, .int k x, .int k' y => match decide (k = k') with
              | true => some ((x == y) && r)
              | false => none
            | .bool, .bool x, .bool y => some ((x == y) && r)
            | .string, .str x, .str y => some ((x.toList == y.toList) && r)
            | _, _, _ => none
          | none => none
        | _, _ => none
    | _, _ => none

def isShr : BinOp → Bool
  | .shr => true
  | _ => false
def shrZ (a b : Int) : Int := a / 2 ^ b.toNat
def isShl : BinOp → Bool
  | .shl => true
  | _ => false
def shlZ (a b : Int) : Int := a * 2 ^ b.toNat
def andZ (k : IntKind) (a b : Int) : Int := k.wrap (BitVec.ofInt k.bits a &&& BitVec.ofInt k.bits b).toNat
def effBin (op : BinOp) (x y : AV) : Res := match x, y with
  | .d (.int k a), .d (.int k' b) => match isShr op with
   | true => .need (0 ≤ b ∧ b ≤ (k.bits : Int)) (.ok (.d (.int k (shrZ a b))) [])
   | false => match isShl op with
    | true => .need (0 ≤ b ∧ b ≤ (k.bits : Int)) (.wr k (shlZ a b) fun z => .ok (.d (.int k z)) [])
    | false => match decide (k = k') with
    | false => .bad
    | true => match op with
      | .add => .wr k (a + b) fun z => .ok (.d (.int k z)) []
      | .sub => .wr k (a - b) fun z => .ok (.d (.int k z)) []
      | .mul => .wr k (a * b) fun z => .ok (.d (.int k z)) []
      | .quo => .need (b ≠ 0) (.wr k (a.tdiv b) fun z => .ok (.d (.int k z)) [])
      | .rem => .need (b ≠ 0) (.ok (.d (.int k (a.tmod b))) [])
      | .eql => .ok (.d (.bool (a == b))) []
      | .neq => .ok (.d (.bool (a != b))) []
      | .lss => .ok (.d (.bool (decide (a < b)))) []
      | .leq => .ok (.d (.bool (decide (a ≤ b)))) []
      | .gtr => .ok (.d (.bool (decide (a > b)))) []
      | .geq => .ok (.d (.bool (decide (a ≥ b)))) []
      | .and => .ok (.d (.int k (andZ k a b))) []
      | _ => .bad
  | .d (.str a), .d (.str b) => match op with
    | .eql => .ok (.d (.bool (a.toList == b.toList))) []
    | .neq => .ok (.d (.bool (!(a.toList == b.toList)))) []
    | .add => .need (((a.size + b.size : Nat) : Int) ≤ 9223372036854775807) (.ok (.d (.str (a ++ b))) [])
    | _ => .bad
  | _, _ => .bad

def isBoolT (S : Tys) (t : TypeId) : Bool := match S t with
  | some ti => match ti.und with
    | .bool => true
    | _ => false
  | none => false
/-- .. of two arrays of numbers. -/
def eqvI : List D → List D → Option Bool
  | [], [] => some true
  | a :: as, b :: bs => match eqvI as bs with
    | some r => match a, b with
      | .int k x, .int k' y => match decide (k = k') with
        | true => some ((x == y) && r)
        | false => none
      | _, _ => none
    | none => none
  | _, _ => none
def eqvA (S : Tys) (t : TypeId) (a b : List D) : Option Bool := match S t with
  | some ti => match ti.und with
    | .struct fs => eqvG S fs.toList 0 a b
    | .array n e => match S e with
      | some te => match te.und, Nat.beq te.size 1, Nat.beq a.length n with
        | .int _, true, true => eqvI a b
        | _, _, _ => none
      | none => none
    | _ => none
  | none => none

def effEq (S : Tys) (t : TypeId) (neg : Bool) (x y : AV) : Res := match x, y with
  | .d (.bool a), .d (.bool b) => match isBoolT S t, neg with
    | true, false => .ok (.d (.bool (a == b))) []
    | true, true => .ok (.d (.bool (!(a == b)))) []
    | false, _ => .bad
  | .d (.agg a), .d (.agg b) => match eqvA S t a b, neg with
    | some r, false => .ok (.d (.bool r)) []
    | some r, true => .ok (.d (.bool (!r))) []
    | none, _ => .bad
  | _, _ => .bad

def effEq2 (S : Tys) (t : TypeId) (neg : Bool) (x y : AV) : Res := match x with
  | .d (.bool _) => effEq S t neg x y
  | .d (.agg _) => effEq S t neg x y
  | _ => match neg with
    | true => effBin .neq x y
    | false => effBin .eql x y

/-- '==' of a slice and nil. -/
def effNil (S : Tys) (t : TypeId) (neg : Bool) (x : AV) : Res := match S t with
  | some ti => match ti.und with
    | .slice _ => match x with
      | .d (.sl _ es) => .nilq es (.ok (.d (.bool (!neg))) []) (.ok (.d (.bool neg)) [])
      | .nil _ => .ok (.d (.bool (!neg))) []
      | _ => .bad
    | _ => .bad
  | none => .bad
def effEq3 (S : Tys) (t : TypeId) (neg : Bool) (x y : AV) : Res := match y with
  | .nil _ => effNil S t neg x
  | _ => effEq2 S t neg x y

def fieldOf (S : Tys) (t : TypeId) (f : Nat) : Option (Nat × TypeId × Nat) := match S t with
  | some ti => match ti.und with
    | .struct fs => match fs.toList[f]? with
      | some ⟨_, ft, fo, _, _, _, _⟩ => match S ft with
        | some ⟨_, size, _, _⟩ => match size with
          | 0 => none
          | n + 1 => some (fo, ft, n + 1)
        | none => none
      | none => none
    | _ => none
  | none => none

/-- 'l.map .d', made at once. -/
def mapD : List D → Option (List AV)
  | [] => some []
  | x :: xs => match mapD xs with
    | some r => some (.d x :: r)
    | none => none
theorem mapD_eq : ∀ l : List D, mapD l = some (l.map .d)
  | [] => rfl
  | x :: xs => by simp [mapD, mapD_eq xs]
/-- Cells of a part of a literal. -/
def partC (v : AV) : Option (List AV) := match v with
  | .d (.agg l) => mapD l
  | .d (.tup _) => none
  | .d x => some [.d x]
  | .agg l => some l
  | .ptr b o => some [.ptr b o]
  | .fnv f cs => some [.fnv f cs]
  | .own b s n => some [.own b s n]
  | .nil s => some [.nil s]
  | .mp b => some [.mp b]
  | _ => none
def fillL (S : Tys) (t : TypeId) (ρ : Operand → AV) : List AV → List (Nat × Operand) → Option (List AV)
  | cs, [] => some cs
  | cs, (i, x) :: ps => match fieldOf S t i with
    | some (off, ft, n) => match partC (resz S ft (ρ x)) with
      | some l => match Nat.beq l.length n with
        | true => match setL cs off l with
          | some cs' => fillL S t ρ cs' ps
          | none => none
        | false => none
      | none => none
    | none => none
/-- An array's literal: elements of one cell. -/
def fillArr (S : Tys) (e : TypeId) (ρ : Operand → AV) : List AV → List (Nat × Operand) → Option (List AV)
  | cs, [] => some cs
  | cs, (i, x) :: ps => match partC (resz S e (ρ x)) with
    | some [v] => match setL cs i [v] with
      | some cs' => fillArr S e ρ cs' ps
      | none => none
    | _ => none

/-- An element as pure data, out of its cells. -/
def elemD (agg : Bool) (cs : List D) : Option D := match agg with
  | true => some (.agg cs)
  | false => match cs with
    | [x] => match x.one with
      | true => some x
      | false => none
    | _ => none
def fillE (S : Tys) (B : Nat → Option Bx) (e : TypeId) (size : Nat) (ρ : Operand → AV) : List D → List (Nat × Operand) → List (Nat × Option Bx) → (List D → List (Nat × Option Bx) → Res) → Res
  | es, [], us, k => k es us
  | es, (i, x) :: ps, us, k => frzAK B (resz S e (ρ x)) fun d u => match Nat.ble size 40 with
    | true => match Nat.beq d.cells.length size, d.flat with
      | true, true => match setL es i [d] with
        | some es' => fillE S B e size ρ es' ps (us ++ u) k
        | none => .bad
      | _, _ => .bad
    | false => .need (d.cells.length = size ∧ d.flat = true) (match setL es i [d] with
      | some es' => fillE S B e size ρ es' ps (us ++ u) k
      | none => .bad)

def bAt (s : ByteArray) (i : Nat) : Int := match s.data.toList[i]? with
  | some b => (b.toNat : Int)
  | none => 0

/-- '[]byte(s)' as data. -/
def bytesD (s : ByteArray) : List D := s.data.toList.map fun b => .int .u8 (b.toNat : Int)
def isBytes (S : Tys) (s e : TypeId) : Bool := match S s, S e with
  | some a, some b => match a.und, b.und with
    | .string, .int .u8 => true
    | _, _ => false
  | _, _ => false

def loI : Option AV → (Int → Res) → Res
  | none, k => k 0
  | some (.d (.int _ n)), k => k n
  | _, _ => .bad
def hiI (len : Nat) : Option AV → (Int → Res) → Res
  | none, k => k (len : Int)
  | some (.d (.int _ n)), k => k n
  | _, _ => .bad

/-- The elements of an append's source. -/
def srcK (B : Nat → Option Bx) (sz : Nat) (v : AV) (k : List D → Res) : Res := match v with
  | .d (.sl sz' es) => match Nat.beq sz' sz with
    | true => k es
    | false => .bad
  | .nil _ => k []
  | .own b _ _ => match B b with
    | some (.row _ sz' es _) => match Nat.beq sz' sz with
      | true => k es
      | false => .bad
    | _ => .bad
  | .sub b v i => match B b with
    | some (.mat _ _ v' rows) => match Nat.beq sz 1 with
      | true => .need (v = v') (.pickR rows i fun es => k es)
      | false => .bad
    | _ => .bad
  | _ => .bad
/-- An old name goes; where the order is drawn, it stands for nothing from now on. -/
def kil (dr : Bool) (b : Nat) : Nat × Option Bx := (b, match dr with
  | true => some .gone
  | false => none)
def oldK (B : Nat → Option Bx) (dr : Bool) (e sz : Nat) (v : AV) (k : List D → Bool → List (Nat × Option Bx) → Res) : Res := match v with
  | .nil _ => k [] false []
  | .own b _ _ => match B b with
    | some (.row e' sz' es fz) => match Nat.beq e' e, Nat.beq sz' sz with
      | true, true => k es fz [kil dr b]
      | _, _ => .bad
    | _ => .bad
  | .sub b v i => match B b with
    | some (.mat et ie v' rows) => match Nat.beq ie e, Nat.beq sz 1 with
      | true, true => .need (v = v') (.pickR rows i fun es => k es false [(b, some (.mat et ie v (rows.set i none)))])
      | _, _ => .bad
    | _ => .bad
  | _ => .bad
/-- A part of a row that is appended to: the row. -/
def viewE (B : Nat → Option Bx) (e sz : Nat) (v : AV) : Option (Nat × Nat × Nat × List D × Bool) := match v with
  | .view b sz1 lo hi => match B b with
    | some (.row e' sz' es fz) => match Nat.beq e' e, Nat.beq sz' sz, Nat.beq sz1 sz with
      | true, true, true => some (b, lo, hi, es, fz)
      | _, _, _ => none
    | _ => none
  | _ => none
def allSome {α : Type} : List (Option α) → Option (List α)
  | [] => some []
  | x :: xs => match x, allSome xs with
    | some y, some ys => some (y :: ys)
    | _, _ => none
/-- A slice of the call's own that is a matrix: its box, the inner element type, its rows. -/
def srcM (B : Nat → Option Bx) (v : AV) : Option (Nat × Nat × Nat × List (Option (List D))) := match v with
  | .own b _ _ => match B b with
    | some (.mat et ie _ rows) => some (b, et, ie, rows)
    | _ => none
  | _ => none
def oldM (B : Nat → Option Bx) (dr : Bool) (c et ie : Nat) (v : AV) : Option (List (Option (List D)) × List (Nat × Option Bx)) := match v with
  | .nil _ => some ([], [])
  | .own b _ _ => match B b with
    | some (.mat et' ie' _ rows) => match Nat.beq et et', Nat.beq ie ie', Nat.beq b c with
      | true, true, false => some (rows, [kil dr b])
      | _, _, _ => none
    | _ => none
  | _ => none
/-- Where a pointer to a header in a matrix points. -/
def matAt (B : Nat → Option Bx) (p : AV) : Option (Nat × Nat × Nat × Nat × List (Option (List D)) × Nat) := match p with
  | .eptr b sz i off => match sz, off with
    | 1, 0 => match B b with
      | some (.mat et ie v rows) => some (b, et, ie, v, rows, i)
      | _ => none
    | _, _ => none
  | _ => none
/-- An inner row that the call owns, out of a literal with one element. -/
def fillM (B : Nat → Option Bx) (dr : Bool) (ie : Nat) (ρ : Operand → AV) (n : Nat) (ps : List (Nat × Operand)) : Option (List D × List (Nat × Option Bx)) := match n, ps with
  | 1, [(0, x)] => match ρ x with
    | .own c _ _ => match B c with
      | some (.row ie' 1 es false) => match Nat.beq ie' ie with
        | true => some (es, [kil dr c])
        | false => none
      | _ => none
    | .nil _ => some ([], [])
    | _ => none
  | _, _ => none

def minI (a b : Int) : Int := if b < a then b else a
def maxI (a b : Int) : Int := if a < b then b else a
def foldI (f : Int → Int → Int) : Int → List AV → Option Int
  | a, [] => some a
  | a, v :: vs => match v with
    | .d (.int .i64 b) => foldI f (f a b) vs
    | _ => none

/-- A big array of one-cell elements: its length, its element's zero. -/
def bigTI (ti : TI) : Option (Nat × D) := match ti.und with
  | .array n _ => match Nat.ble n 20 with
    | true => none
    | false => match ti.zero with
      | .d z :: _ => match z.one with
        | true => some (n, z)
        | false => none
      | _ => none
  | _ => none
def bigO (S : Tys) (T : TypeId) : Option Nat := match S T with
  | some ti => match bigTI ti with
    | some (n, _) => some n
    | none => none
  | none => none
def frzZL : List AV → Option (List D)
  | [] => some []
  | c :: cs => match frzZL cs with
    | some ds => match c with
      | .d x => some (x :: ds)
      | .nil sz => some (.sl sz [] :: ds)
      | _ => none
    | none => none
/-- A type's zero as data; it is flat. -/
def zeroFl (te : TI) : Option D := match bigTI te with
  | some _ => none
  | none => match frzZL te.zero with
    | some ds => match elemD (isAggT te.und) ds with
      | some z => match z.flat with
        | true => some z
        | false => none
      | none => none
    | none => none
/-- Two keys of one kind. -/
def keyEq : D → D → Bool
  | .int k a, .int k' b => decide (k = k') && decide (a = b)
  | .str a, .str b => decide (a = b)
  | .bool a, .bool b => a == b
  | _, _ => false
/-- A map's entries, oldest first: what stands at a key; with something put at a key. -/
def mget : List (D × D) → D → Option D
  | [], _ => none
  | (k, v) :: r, x => if keyEq x k then some v else mget r x
def mput : List (D × D) → D → D → List (D × D)
  | [], x, v => [(x, v)]
  | (k, u) :: r, x, v => if keyEq x k then (x, v) :: r else (k, u) :: mput r x v
/-- May a value of this kind be a key that is compared at once? -/
def kdOf : TypeDesc → D → Bool
  | .int q, .int q' _ => decide (q' = q)
  | .string, .str _ => true
  | .bool, .bool _ => true
  | _, _ => false
def mapTy (S : Tys) (T : TypeId) : Option (Nat × Nat × TypeDesc) := match S T with
  | some ti => match ti.und with
    | .map kt et => match S kt with
      | some tk => match tk.und with
        | .int q => some (kt, et, .int q)
        | .string => some (kt, et, .string)
        | .bool => some (kt, et, .bool)
        | _ => none
      | none => none
    | _ => none
  | none => none
/-- The element type of a slice type (of one cell an element). -/
def innerOf (S : Tys) (te : TI) : Option Nat := match te.und with
  | .slice ie => match S ie, te.size, te.zero with
    | some ti, 1, [.nil _] => match Nat.beq ti.size 1 with
      | true => some ie
      | false => none
    | _, _, _ => none
  | _ => none
def callXOf (B : Nat → Option Bx) (t : Option Nat) (f : FuncId) (xs : List AV) : Res := .callX t f xs (handed B xs)
/-- Stores: of a big array; of a header into a matrix; of some cells. -/
def stBig (B : Nat → Option Bx) (ti : TI) (n : Nat) (x y : AV) : Res := match x, y with
  | .ptr b 0, .d (.agg l) => match B b with
    | some (.arr es false) => .need (l.length = n ∧ ti.size = n ∧ es.length = n) (.ok .undef [(b, some (.arr l false))])
    | _ => .bad
  | _, _ => .bad
def stMat (B : Nat → Option Bx) (ti : TI) (T : TypeId) (q : Nat × Nat × Nat × Nat × List (Option (List D)) × Nat) (y : AV) : Res := match q, isAggT ti.und, y with
  | (b, et, ie, v, rows, i), false, .own c _ _ => match B c with
    | some (.row ie' 1 es false) => match Nat.beq ie' ie, Nat.beq et T with
      | true, true => .need (ti.size = 1 ∧ i < rows.length) (.ok .undef [(c, none), (b, some (.mat et ie (v + 1) (rows.set i (some es))))])
      | _, _ => .bad
    | _ => .bad
  | (b, et, ie, v, rows, i), false, .nil _ => .need (ti.size = 1 ∧ i < rows.length) (.ok .undef [(b, some (.mat et ie (v + 1) (rows.set i (some []))))])
  | _, _, _ => .bad
def stPart (B : Nat → Option Bx) (l : List AV) (x : AV) : Res := match x with
  | .ptr b off => match B b with
    | some (.var cs false) => match setL cs off l with
      | some cs' => .ok .undef [(b, some (.var cs' false))]
      | none => .bad
    | _ => .bad
  | .eptr b sz' i off => match B b with
    | some (.row et sz es false) => match Nat.beq sz' sz, allD l with
      | true, some ds => .pick es i fun e => match e with
        | .agg cs => match setL cs off ds with
          | some cs' => .ok .undef [(b, some (.row et sz (es.set i (.agg cs')) false))]
          | none => .bad
        | _ => match off, ds with
          | 0, [x] => .ok .undef [(b, some (.row et sz (es.set i x) false))]
          | _, _ => .bad
      | _, _ => .bad
    | _ => .bad
  | .sptr b sz' i j => match l with
    | [.d x] => match B b with
      | some (.arr es false) => match sz' with
        | 0 => .need (j < es.length) (.ok .undef [(b, some (.arr (es.set j x) false))])
        | _ => .bad
      | some (.row et sz es false) => match Nat.beq sz' sz with
        | true => .pick es i fun e => match e with
          | .agg cs => .need (j < cs.length) (.ok .undef [(b, some (.row et sz (es.set i (.agg (cs.set j x))) false))])
          | _ => .bad
        | false => .bad
      | _ => .bad
    | _ => .bad
  | .mptr b v i j => match l with
    | [.d x] => match B b with
      | some (.mat et ie v' rows) => .need (v = v') (.pickR rows i fun es => .pick es j fun e => match e.one with
        | true => .ok .undef [(b, some (.mat et ie v (rows.set i (some (es.set j x)))))]
        | false => .bad)
      | _ => .bad
    | _ => .bad
  | _ => .bad
/-- A map with something put at a key. -/
def mapSet (S : Tys) (B : Nat → Option Bx) (T : TypeId) (m i x : AV) : Res := match mapTy S T, m, i with
  | some (kt, et, kd), .mp b, .d k => match B b, kdOf kd k with
    | some (.map kt' et' kd' es), true => .need (kt' = kt ∧ et' = et ∧ kd' = kd) (frzAK B (resz S et x) fun d us => .ok .undef (us ++ [(b, some (.map kt et kd (mput es k d)))]))
    | _, _ => .bad
  | _, _, _ => .bad
/-- 'clear' of a part of a slice that the call owns. -/
def clearE (S : Tys) (B : Nat → Option Bx) (T : TypeId) (v : AV) : Res := match v with
  | .view b sz0 lo hi => match B b, S T with
    | some (.row et sz es false), some ti => match ti.und with
      | .slice e => match S e with
        | some te => match zeroFl te, Nat.beq te.size sz, Nat.beq sz0 sz with
          | some z, true, true => .need (lo < hi ∧ hi ≤ es.length) (.ok (.d (.tup [])) [(b, some (.row et sz (es.take lo ++ List.replicate (hi - lo) z ++ es.drop hi) false))])
          | _, _, _ => .bad
        | none => .bad
      | _ => .bad
    | _, _ => .bad
  | _ => .bad
/-- What may be copied into: a slice that the call owns, or a part of it. -/
def dstV (B : Nat → Option Bx) (v : AV) : Option (Nat × Nat × Nat × List D × Nat × Nat) := match v with
  | .own b _ _ => match B b with
    | some (.row et sz es false) => some (b, et, sz, es, 0, es.length)
    | _ => none
  | .view b sz0 lo hi => match B b with
    | some (.row et sz es false) => match Nat.beq sz0 sz with
      | true => some (b, et, sz, es, lo, hi)
      | false => none
    | _ => none
  | _ => none
/-- What may be copied. -/
def srcV (B : Nat → Option Bx) (sz : Nat) (v : AV) (k : List D → Res) : Res := match v with
  | .d (.sl sz' es) => match Nat.beq sz' sz with
    | true => k es
    | false => .bad
  | .nil _ => k []
  | .own b _ _ => match B b with
    | some (.row _ sz' es _) => match Nat.beq sz' sz with
      | true => k es
      | false => .bad
    | _ => .bad
  | .view b sz2 lo hi => match B b with
    | some (.row _ sz' es _) => match Nat.beq sz' sz, Nat.beq sz2 sz with
      | true, true => .need (lo ≤ hi ∧ hi ≤ es.length) (k ((es.take hi).drop lo))
      | _, _ => .bad
    | _ => .bad
  | _ => .bad
def cpy (es : List D) (lo n : Nat) (new : List D) : List D := es.take lo ++ new.take n ++ es.drop (lo + min n new.length)
def copyE (S : Tys) (B : Nat → Option Bx) (T : TypeId) (x y : AV) : Res := match S T with
  | some ti => match ti.und with
    | .slice e => match S e with
      | some te => match dstV B x, te.size with
        | some (b, et, sz', es, lo, hi), sz + 1 => match Nat.beq sz' (sz + 1) with
          | true => srcV B (sz + 1) y fun new => .need (lo ≤ hi ∧ hi ≤ es.length) (.ok (.d (.int .i64 ((min (hi - lo) new.length : Nat) : Int))) [(b, some (.row et (sz + 1) (cpy es lo (hi - lo) new) false))])
          | false => .bad
        | _, _ => .bad
      | none => .bad
    | _ => .bad
  | none => .bad
/-- 'append' of a new row of zeros to nil. -/
def appZ (S : Tys) (t e T' : Nat) (s x : AV) : Res := match s, x with
  | .nil _, .d (.int _ n) => match S T', S e with
    | some ti', some te => match ti'.und, te.size with
      | .int _, sz + 1 => match zeroFl te with
        | some z => .need (0 < n ∧ n * (te.bytes : Int) ≤ 140737488355328 ∧ n ≤ 140737488355328) (.ok (.own t (sz + 1) n.toNat) [(t, some (.row e (sz + 1) (List.replicate n.toNat z) false))])
        | none => .bad
      | _, _ => .bad
    | _, _ => .bad
  | _, _ => .bad

/-- One operation. 'ρ' reads its operands, 'B' the boxes; 'dr': the region draws its order. -/
def eff (S : Tys) (dr : Bool) (o : Oper) (ρ : Operand → AV) (B : Nat → Option Bx) : Res := match o.op with
  | .move x => .ok (ρ x) []
  | .nilCheck x => match ρ x with
    | .ptr b off => .ok (.ptr b off) []
    | .eptr b sz i off => .ok (.eptr b sz i off) []
    | .d (.ref cs off) => .ok (.d (.ref cs off)) []
    | _ => .bad
  | .assign x => .ok (resz S o.type (ρ x)) []
  | .pick c a b => match ρ c with
    | .d (.bool t) => match t with
      | true => .ok (ρ a) []
      | false => .ok (ρ b) []
    | _ => .bad
  | .alloc T => match o.dst, S T with
    | some t, some ti => match bigTI ti with
      | some (n, z) => .need (ti.size = n ∧ ti.zero = List.replicate n (.d z)) (.ok (.ptr t 0) [(t, some (.arr (List.replicate n z) false))])
      | none => .ok (.ptr t 0) [(t, some (.var ti.zero false))]
    | _, _ => .bad
  | .box T x => match o.dst with
    | some t => match bigO S T with
      | some n => match ρ x with
        | .d (.agg l) => .need (l.length = n) (.ok (.ptr t 0) [(t, some (.arr l false))])
        | _ => .bad
      | none => match partC (resz S T (ρ x)) with
        | some cs => .ok (.ptr t 0) [(t, some (.var cs false))]
        | none => .bad
    | none => .bad
  | .build T ps => match S T with
    | some ti => match ti.und with
      | .struct _ => match fillL S T ρ ti.zero ps.toList with
        | some cs => match oneL cs with
          | true => .ok (mkA cs) []
          | false => .bad
        | none => .bad
      | .array _ e => match S e with
        | some te => match Nat.beq te.size 1, fillArr S e ρ ti.zero ps.toList with
          | true, some cs => match oneL cs with
            | true => .ok (mkA cs) []
            | false => .bad
          | _, _ => .bad
        | none => .bad
      | _ => .bad
    | none => .bad
  | .buildSlice T n ps => match o.dst, S T with
    | some t, some ti => match ti.und with
      | .slice e => match S e with
        | some te => match Nat.ble (n * te.size) 16777216, te.size with
          | true, sz + 1 => match innerOf S te with
            | some ie => match fillM B dr ie ρ n ps.toList with
              | some (es, us) => .ok (.own t 1 n) (us ++ [(t, some (.mat e ie 0 [some es]))])
              | none => match zeroFl te with
                | some z => fillE S B e (sz + 1) ρ (List.replicate n z) ps.toList [] fun es us => .ok (.own t (sz + 1) n) (us ++ [(t, some (.row e (sz + 1) es false))])
                | none => .bad
            | none => match zeroFl te with
              | some z => fillE S B e (sz + 1) ρ (List.replicate n z) ps.toList [] fun es us => .ok (.own t (sz + 1) n) (us ++ [(t, some (.row e (sz + 1) es false))])
              | none => .bad
          | _, _ => .bad
        | none => .bad
      | _ => .bad
    | _, _ => .bad
  | .makeSlice T n c => match o.dst, S T, ρ n, ρ c with
    | some t, some ti, .d (.int .i64 n), .d (.int .i64 c) => match ti.und with
      | .slice e => match S e with
        | some te => match te.size with
          | 0 => .bad
          | sz + 1 => match innerOf S te with
            | some ie => .need (n = c ∧ 0 ≤ n ∧ n * (te.bytes : Int) ≤ 140737488355328 ∧ n ≤ 140737488355328) (.ok (.own t 1 n.toNat) [(t, some (.mat e ie 0 (List.replicate n.toNat (some []))))])
            | none => match zeroFl te with
              | some z => .need (n = c ∧ 0 ≤ n ∧ n * (te.bytes : Int) ≤ 140737488355328 ∧ n ≤ 140737488355328) (.ok (.own t (sz + 1) n.toNat) [(t, some (.row e (sz + 1) (List.replicate n.toNat z) false))])
              | none => .bad
        | none => .bad
      | _ => .bad
    | _, _, _, _ => .bad
  | .load T x => match S T with
    | some ti => match ρ x with
      | .ptr b off => match B b with
        | some (.var cs _) => loadL ti cs off
        | some (.arr es _) => match off, isAggT ti.und with
          | 0, true => .need (es.length = ti.size) (.ok (.d (.agg es)) [])
          | _, _ => .bad
        | _ => .bad
      | .eptr b sz i off => match B b with
        | some (.row _ sz' es _) => match Nat.beq sz sz' with
          | true => .pick es i fun e => loadD ti e.cells off
          | false => .bad
        | some (.mat _ _ v rows) => match off, sz, isAggT ti.und with
          | 0, 1, false => .pickR rows i fun _ => .ok (.sub b v i) []
          | _, _, _ => .bad
        | _ => .bad
      | .mptr b v i j => match isAggT ti.und with
        | true => .bad
        | false => match B b with
          | some (.mat _ _ v' rows) => .need (v = v') (.pickR rows i fun es => .pick es j fun x => loadD ti x.cells 0)
          | _ => .bad
      | .sptr b sz i j => match isAggT ti.und with
        | true => .bad
        | false => match B b with
          | some (.arr es _) => match sz with
            | 0 => .pick es j fun v => .ok (.d v) []
            | _ => .bad
          | some (.row _ sz' es _) => match Nat.beq sz sz' with
            | true => .pick es i fun e => .pick e.cells j fun v => .ok (.d v) []
            | false => .bad
          | _ => .bad
      | .d (.ref cs off) => loadR ti cs off
      | _ => .bad
    | none => .bad
  | .store T x y => match S T with
    | some ti => match bigO S T with
     | some n => stBig B ti n (ρ x) (ρ y)
     | none => match matAt B (ρ x) with
      | some q => stMat B ti T q (ρ y)
      | none => match partC (resz S T (ρ y)) with
       | some l => .need (l.length = ti.size) (stPart B l (ρ x))
       | none => .bad
    | none => .bad
  | .binOp op T x y _ => match op with
    | .eql => effEq3 S T false (ρ x) (ρ y)
    | .neq => effEq3 S T true (ρ x) (ρ y)
    | op => effBin op (ρ x) (ρ y)
  | .unOp op _ x => match op, ρ x with
    | .not, .d (.bool b) => .ok (.d (.bool (!b))) []
    | .neg, .d (.int k n) => .wr k (0 - n) fun z => .ok (.d (.int k z)) []
    | _, _ => .bad
  | .convert s T x => match S s, S T, ρ x with
    | some _, some ti, .d (.int _ n) => match ti.und with
      | .int k => .wr k n fun z => .ok (.d (.int k z)) []
      | _ => .bad
    | some _, some ti, .d (.str b) => match ti.und with
      | .string => .ok (.d (.str b)) []
      | .slice e => match isBytes S s e with
        | true => .ok (.d (.sl 1 (bytesD b))) []
        | false => .bad
      | _ => .bad
    | _, _, _ => .bad
  | .fieldAddr T x f => match fieldOf S T f with
    | some (fo, _, _) => match ρ x with
      | .ptr b off => .ok (.ptr b (off + fo)) []
      | .eptr b sz i off => .ok (.eptr b sz i (off + fo)) []
      | .d (.ref cs off) => .ok (.d (.ref cs (off + fo))) []
      | _ => .bad
    | none => .bad
  | .field T x f => match fieldOf S T f with
    | some (fo, ft, n) => match S ft with
      | some tf => match ρ x, isAggT tf.und with
        | .d (.agg cs), false => match cs[fo]? with
          | some v => .ok (.d v) []
          | none => .bad
        | .d (.agg cs), true => match subL fo n cs with
          | some l => .ok (.d (.agg l)) []
          | none => .bad
        | .agg cs, false => match cs[fo]? with
          | some v => .ok v []
          | none => .bad
        | _, _ => .bad
      | none => .bad
    | none => .bad
  | .indexAddr T x i => match S T, ρ i with
    | some ti, .d (.int _ n) => match ti.und, ρ x with
      | .slice e, .d (.sl sz es) => match S e with
        | some te => match Nat.beq te.size sz with
          | true => .need (0 ≤ n) (.pick es n.toNat fun v => .ok (.d (.ref v.cells 0)) [])
          | false => .bad
        | none => .bad
      | .slice e, .own b sz _ => match S e with
        | some te => match B b with
          | some (.row _ sz' es _) => match Nat.beq te.size sz, Nat.beq sz sz' with
            | true, true => .need (0 ≤ n ∧ n < (es.length : Int)) (.ok (.eptr b sz n.toNat 0) [])
            | _, _ => .bad
          | some (.mat _ _ _ rows) => match te.size with
            | 1 => .need (0 ≤ n ∧ n < (rows.length : Int)) (.ok (.eptr b 1 n.toNat 0) [])
            | _ => .bad
          | _ => .bad
        | none => .bad
      | .slice e, .view b sz lo hi => match S e with
        | some te => match B b with
          | some (.row _ sz' _ _) => match Nat.beq te.size sz, Nat.beq sz sz' with
            | true, true => .need (0 ≤ n ∧ n < ((hi - lo : Nat) : Int)) (.ok (.eptr b sz (lo + n.toNat) 0) [])
            | _, _ => .bad
          | _ => .bad
        | none => .bad
      | .slice e, .sub b v i => match S e with
        | some te => match B b, te.size with
          | some (.mat _ _ v' rows), 1 => .need (v = v') (.pickR rows i fun es => .need (0 ≤ n ∧ n < (es.length : Int)) (.ok (.mptr b v i n.toNat) []))
          | _, _ => .bad
        | none => .bad
      | .array len e, .ptr b off => match S e with
        | some te => match B b with
          | some (.arr _ _) => match off, te.size with
            | 0, 1 => .need (0 ≤ n ∧ n < (len : Int)) (.ok (.sptr b 0 0 n.toNat) [])
            | _, _ => .bad
          | _ => .need (0 ≤ n ∧ n < (len : Int)) (.ok (.ptr b (off + n.toNat * te.size)) [])
        | none => .bad
      | .array len e, .eptr b sz i off => match S e with
        | some te => match te.size with
          | 1 => .need (0 ≤ n ∧ n < (len : Int)) (.ok (.sptr b sz i (off + n.toNat)) [])
          | _ => .bad
        | none => .bad
      | .array len e, .d (.ref cs off) => match S e with
        | some te => match Nat.ble len 20, te.size with
         | false, 1 => .need (0 ≤ n ∧ n < (len : Int)) (.pick cs (off + n.toNat) fun v => .ok (.d (.ref [v] 0)) [])
         | _, _ => .need (0 ≤ n ∧ n < (len : Int)) (.ok (.d (.ref cs (off + n.toNat * te.size))) [])
        | none => .bad
      | _, _ => .bad
    | _, _ => .bad
  | .index T x i => match S T, ρ i with
    | some ti, .d (.int _ n) => match ti.und, ρ x with
      | .string, .d (.str s) => .need (0 ≤ n ∧ n < (s.size : Int)) (.ok (.d (.int .u8 (bAt s n.toNat))) [])
      | .array len e, .d (.agg cs) => match S e with
        | some te => match isAggT te.und with
          | false => match Nat.beq te.size 1 with
            | true => .need (0 ≤ n ∧ n < (len : Int)) (.pick cs n.toNat fun v => .ok (.d v) [])
            | false => .bad
          | true => .bad
        | none => .bad
      | _, _ => .bad
    | _, _ => .bad
  | .slice T x lo hi mx => match S T, mx with
    | some ti, none => match ti.und, ρ x with
      | .string, .d (.str s) => loI (lo.map ρ) fun l => hiI s.size (hi.map ρ) fun h => .need (0 ≤ l ∧ l ≤ h ∧ h ≤ (s.size : Int)) (.ok (.d (.str (s.extract l.toNat h.toNat))) [])
      | .slice e, .d (.sl sz es) => match S e with
        | some te => match Nat.beq te.size sz with
          | true => loI (lo.map ρ) fun l => hiI es.length (hi.map ρ) fun h => .need (0 ≤ l ∧ l ≤ h ∧ h ≤ (es.length : Int)) (.ok (.d (.sl sz ((es.take h.toNat).drop l.toNat))) [])
          | false => .bad
        | none => .bad
      | .slice e, .own b _ _ => match S e with
        | some te => match B b with
          | some (.row et sz es fz) => match Nat.beq te.size sz with
            | true => loI (lo.map ρ) fun l => hiI es.length (hi.map ρ) fun h => .alt (.need (0 ≤ l ∧ l ≤ h ∧ h ≤ (es.length : Int)) (.ok (.d (.sl sz ((es.take h.toNat).drop l.toNat))) (match fz with
                  | true => []
                  | false => [(b, some (.row et sz es true))])))
                (.alt (.need (0 ≤ l ∧ l < h ∧ h ≤ (es.length : Int)) (.ok (.view b sz l.toNat h.toNat) []))
                  (match o.dst, fz with
                  | some t, false => .need (l = 0 ∧ 0 ≤ h ∧ h ≤ (es.length : Int)) (.ok (.own t sz h.toNat) [(b, some .gone), (t, some (.row et sz (es.take h.toNat) false))])
                  | _, _ => .bad))
            | false => .bad
          | _ => .bad
        | none => .bad
      | .slice e, .view b sz l0 h0 => match S e with
        | some te => match Nat.beq te.size sz with
          | true => loI (lo.map ρ) fun l => hiI (h0 - l0) (hi.map ρ) fun h => .alt (.need (0 ≤ l ∧ l < h ∧ h ≤ ((h0 - l0 : Nat) : Int)) (.ok (.view b sz (l0 + l.toNat) (l0 + h.toNat)) []))
              (.need (0 ≤ l ∧ l = h ∧ h ≤ ((h0 - l0 : Nat) : Int)) (.ok (.d (.sl sz [])) []))
          | false => .bad
        | none => .bad
      | .slice e, .nil sz => match S e with
        | some _ => loI (lo.map ρ) fun l => hiI 0 (hi.map ρ) fun h => .need (0 ≤ l ∧ l ≤ h ∧ h ≤ ((0 : Nat) : Int)) (.ok (.nil sz) [])
        | none => .bad
      | .array len e, .ptr b 0 => match S e with
        | some te => match B b, te.size with
          | some (.arr es _), 1 => loI (lo.map ρ) fun l => hiI len (hi.map ρ) fun h => .need ((0 ≤ l ∧ l ≤ h ∧ h ≤ (len : Int)) ∧ es.length = len) (.ok (.d (.sl 1 ((es.take h.toNat).drop l.toNat))) [(b, some (.arr es true))])
          | _, _ => .bad
        | none => .bad
      | _, _ => .bad
    | _, _ => .bad
  | .makeMap T none => match o.dst, mapTy S T with
    | some t, some (kt, et, kd) => .ok (.mp t) [(t, some (.map kt et kd []))]
    | _, _ => .bad
  | .lookup T x i ok => match mapTy S T, ρ x, ρ i with
    | some (kt, et, kd), .mp b, .d k => match B b, S et with
      | some (.map kt' et' kd' es), some te => match zeroFl te, kdOf kd k with
        | some z, true => .need (kt' = kt ∧ et' = et ∧ kd' = kd) (.look es k (fun v => match ok with
            | true => .ok (.d (.tup [v, .bool true])) []
            | false => .ok (.d v) []) (match ok with
            | true => .ok (.d (.tup [z, .bool false])) []
            | false => .ok (.d z) []))
        | _, _ => .bad
      | _, _ => .bad
    | _, _, _ => .bad
  | .mapUpdate T m i x => mapSet S B T (ρ m) (ρ i) (ρ x)
  | .range T x => match o.dst, mapTy S T, ρ x with
    | some t, some _, .mp b => match B b with
      | some (.map _ _ _ es) => .ok (.ptr t 0) [(t, some (.iter (some b) es.length []))]
      | _ => .bad
    | _, _, _ => .bad
  | .next x str => match str, ρ x with
    | false, .ptr b 0 => match B b with
      | some (.iter (some m) n seen) => match B m with
        | some (.map _ _ _ es) => .need (es.length = n) (.nxt es seen (fun j p => .ok (.d (.tup [.bool true, p.1, p.2])) [(b, some (.iter (some m) n (j :: seen)))]) (.ok (.d (.tup [.bool false])) []))
        | _ => .bad
      | _ => .bad
    | _, _ => .bad
  | .entry x => match ρ x with
    | .ptr b 0 => match B b with
      | some (.iter (some m) n (j :: _)) => match B m with
        | some (.map _ _ _ es) => .need (es.length = n) (.pick (es.map fun p => .tup [p.1, p.2]) j fun d => .ok (.d d) [])
        | _ => .bad
      | _ => .bad
    | _ => .bad
  | .insert T m i x => mapSet S B T (ρ m) (ρ i) (ρ x)
  | .extract x i => match ρ x with
    | .d (.tup cs) => match cs[i]? with
      | some v => .ok (.d v) []
      | none => .bad
    | .tup cs => match cs[i]? with
      | some v => .ok v []
      | none => .bad
    | _ => .bad
  | .makeFunc fn first caps => match fn, first.toList with
    | .func f, [] => match capL (caps.toList.map ρ) with
      | some cs => .ok (.fnv f cs) []
      | none => .bad
    | _, _ => .bad
  | .call c => match c.callee with
    | .builtin .len => match c.args.toList.map ρ, c.argTypes.toList with
      | [v], T :: _ => match S T with
        | some ti => match ti.und, v with
          | .slice _, .d (.sl _ es) => .ok (.d (.int .i64 (es.length : Int))) []
          | .slice _, .own b _ _ => match B b with
            | some (.row _ _ es _) => .ok (.d (.int .i64 (es.length : Int))) []
            | some (.mat _ _ _ rows) => .ok (.d (.int .i64 (rows.length : Int))) []
            | _ => .bad
          | .slice _, .sub b v i => match B b with
            | some (.mat _ _ v' rows) => .need (v = v') (.pickR rows i fun es => .ok (.d (.int .i64 (es.length : Int))) [])
            | _ => .bad
          | .slice _, .nil _ => .ok (.d (.int .i64 0)) []
          | .slice _, .view _ _ lo hi => .ok (.d (.int .i64 ((hi - lo : Nat) : Int))) []
          | .map _ _, .mp b => match B b with
            | some (.map _ _ _ es) => .ok (.d (.int .i64 (es.length : Int))) []
            | _ => .bad
          | .string, .d (.str s) => .ok (.d (.int .i64 (s.size : Int))) []
          | .array n _, _ => .ok (.d (.int .i64 (n : Int))) []
          | _, _ => .bad
        | none => .bad
      | _, _ => .bad
    | .builtin .cap => match c.args.toList.map ρ, c.argTypes.toList with
      | [v], T :: _ => match S T with
        | some ti => match ti.und, v with
          | .slice _, .nil _ => .ok (.d (.int .i64 0)) []
          | _, _ => .bad
        | none => .bad
      | _, _ => .bad
    | .builtin .min => match c.args.toList.map ρ with
      | .d (.int .i64 a) :: vs => match foldI minI a vs with
        | some z => .ok (.d (.int .i64 z)) []
        | none => .bad
      | _ => .bad
    | .builtin .max => match c.args.toList.map ρ with
      | .d (.int .i64 a) :: vs => match foldI maxI a vs with
        | some z => .ok (.d (.int .i64 z)) []
        | none => .bad
      | _ => .bad
    | .builtin .clear => match c.args.toList.map ρ, c.argTypes.toList with
      | [v], T :: _ => clearE S B T v
      | _, _ => .bad
    | .builtin .copy => match c.args.toList.map ρ, c.argTypes.toList with
      | [x, y], T :: _ => copyE S B T x y
      | _, _ => .bad
    | .builtin .append => match o.dst, c.args.toList.map ρ, c.argTypes.toList with
      | some t, [s, x], [T, T'] => match Nat.beq T T', S T with
        | true, some ti => match ti.und with
          | .slice e => match S e with
            | some te => match te.size with
              | 0 => .bad
              | sz + 1 => match srcM B x with
                | some (c, et, ie, new) => match Nat.beq et e, sz, oldM B dr c et ie s, allSome new with
                  | true, 0, some (old, kill), some ns => .need ((old.length + ns.length) * te.bytes ≤ 140737488355328 ∧ old.length + ns.length ≤ 140737488355328 ∧ 0 < ns.length)
                      (.ok (.own t 1 (old.length + ns.length)) (kill ++ [kil dr c, (t, some (.mat e ie 0 (old ++ ns.map some)))]))
                  | _, _, _, _ => .bad
                | none => match viewE B e (sz + 1) s with
                | some (b, lo, hi, es, fz) => srcK B (sz + 1) x fun new =>
                  .need (hi = es.length ∧ (es.length + new.length) * te.bytes ≤ 140737488355328 ∧ es.length + new.length ≤ 140737488355328 ∧ 0 < new.length)
                    (.nilq [] (.ok (.view t (sz + 1) lo (es.length + new.length)) [kil dr b, (t, some (.row e (sz + 1) (es ++ new) fz))])
                      (.ok (.own t (sz + 1) (es.length - lo + new.length)) [kil dr b, (t, some (.row e (sz + 1) (es.drop lo ++ new) false))]))
                | none => oldK B dr e (sz + 1) s fun old fz kill => srcK B (sz + 1) x fun new =>
                .need ((old.length + new.length) * te.bytes ≤ 140737488355328 ∧ old.length + new.length ≤ 140737488355328)
                  (.ok (.own t (sz + 1) (old.length + new.length)) (kill ++ [(t, some (.row e (sz + 1) (old ++ new) fz))]))
            | none => .bad
          | _ => .bad
        | false, some ti => match ti.und with
          | .slice e => appZ S t e T' s x
          | _ => .bad
        | _, _ => .bad
      | _, _, _ => .bad
    | .value f => match ρ f with
      | .d (.fn f caps) => match Nat.beq c.args.size c.argTypes.size with
        | true => .alt (frzALK B (zipResz S (c.args.toList.map ρ) c.argTypes.toList) fun l us => .call f (l ++ caps) us)
            (callXOf B o.dst f (zipResz S (c.args.toList.map ρ) c.argTypes.toList ++ caps.map .d))
        | false => .bad
      | .fnv f caps => match Nat.beq c.args.size c.argTypes.size with
        | true => .alt (frzALK B (zipResz S (c.args.toList.map ρ) c.argTypes.toList) fun l us => frzCap B caps fun cs us' => .call f (l ++ cs) (us ++ us'))
            (callXOf B o.dst f (zipResz S (c.args.toList.map ρ) c.argTypes.toList ++ capAV caps))
        | false => .bad
      | _ => .bad
    | _ => .bad
  | _ => .bad
end Go.Vm
