/- The evaluator of regions and bodies; what a contract 'Ev' says. -/
import Derived.Test.YticnipadahihhaaVmB
import Derived.IntWalk
import Derived.Deep.MidRow
import Derived.Maps.AppendAt
import Derived.MapFrom
namespace Go.Vm
open Go.RowKit (Below)

/-- The tape stays, and is read on. -/
def TapeOn (w w' : World) : Prop := w'.tape = w.tape ∧ w.drawn ≤ w'.drawn
theorem TapeOn.rfl' {w : World} : TapeOn w w := ⟨rfl, Nat.le_refl _⟩
theorem TapeOn.trans {w w' w'' : World} (h : TapeOn w w') (h' : TapeOn w' w'') : TapeOn w w'' := ⟨h'.1.trans h.1, Nat.le_trans h.2 h'.2⟩
/-- Nothing that was there is written, and the tape is read on. -/
structure BelowD (w w' : World) : Prop extends Below w.heap.size w w' where
  dr : w.drawn ≤ w'.drawn
theorem BelowD.on {w w' : World} (h : BelowD w w') : TapeOn w w' := ⟨h.tape, h.dr⟩
theorem BelowD.refl (w : World) : BelowD w w := ⟨Below.refl _ w, Nat.le_refl _⟩

/-- CONTRACT: called with data that read as 'args', function f returns a value that reads as 'ret'; nothing that was there is written. -/
def Ev (P : Program) (f : FuncId) (args : List D) (ret : D) : Prop :=
  (∃ fn, P.funcs[f]? = some fn ∧ (fn.name == "runtime.NumGoroutine") = false ∧ fn.body.isNone = false) ∧
  ∀ (w : World) (A : Sta) (vals : Array Value), (∀ g o, A g o → g < w.heap.size) → args.length = vals.size →
    (∀ (j : Nat) c v, args[j]? = some c → vals[j]? = some v → Rep w A c v) →
    Calls P f vals w fun e w' => ∃ v A', e = .returned v ∧ Rep w' A' ret v ∧ BelowD w w' ∧
      (∀ g o, A g o → A' g o) ∧ (∀ g o, A' g o → g < w'.heap.size) ∧ (∀ g o, A' g o → A g o ∨ w.heap.size ≤ g)

/-- The blocks that a box claims. -/
def own (L : Lay) (b : Nat) : Bx → Nat → Prop
  | .var _ _, g => g = L.ι b
  | .arr _ _, g => g = L.ι b
  | .row _ _ _ _, g => (L.hd b).ownBlock = some g
  | .mat _ _ v rows, g => (L.hd b).ownBlock = some g ∨ ∃ (i : Nat) (es : List D), rows[i]? = some (some es) ∧ (L.sub b v i).ownBlock = some g
  | .map _ _ _ _, g => g = L.ι b
  | .iter _ _ _, g => g = L.ι b
  | .gone, _ => False

/-- An inner row of a matrix. -/
def inRow (B0 : Nat) (w : World) (A : Sta) (ie : Nat) (v : Value) (es : List D) : Prop :=
  Vm.oneV v = true ∧ ∃ ys, w.ownsRow B0 ie 1 v es.length ys ∧ (∀ (i : Nat) e, es[i]? = some e → e.cells.length = 1 ∧ e.flat = true) ∧
    ∀ (i : Nat) e (j : Nat) c y, es[i]? = some e → e.cells[j]? = some c → ys[i * 1 + j]? = some y → Rep w A c y

/-- What a box reads as. 'B0': blocks from B0 on are the call's own. -/
def BR (B0 : Nat) (L : Lay) (w : World) (A : Sta) (b : Nat) : Bx → Prop
  | .var cs fz => ∃ C t, w.heap[L.ι b]? = some (.cells C t (0, 0)) ∧ C.size = cs.length ∧
      (∀ (j : Nat) c v, cs[j]? = some c → C[j]? = some v → RV L w A c v) ∧ (fz = false → ∀ o, ¬ A (L.ι b) o)
  | .arr es fz => ∃ C t, w.heap[L.ι b]? = some (.cells C t (0, 0)) ∧ C.size = es.length ∧ (∀ c ∈ es, c.one = true) ∧
      (∀ (j : Nat) c v, es[j]? = some c → C[j]? = some v → Rep w A c v) ∧ (fz = false → ∀ o, ¬ A (L.ι b) o)
  | .row et sz es fz => ∃ xs, w.ownsRow B0 et sz (L.hd b) es.length xs ∧
      (∀ (i : Nat) e, es[i]? = some e → e.cells.length = sz ∧ e.flat = true) ∧
      (∀ (i : Nat) e (j : Nat) c v, es[i]? = some e → e.cells[j]? = some c → xs[i * sz + j]? = some v → Rep w A c v) ∧
      (∀ g, (L.hd b).ownBlock = some g → g = L.ι b) ∧
      (L.hd b ≠ .slice none 0 0 → ∀ o, A (L.ι b) o → fz = true ∧ o < es.length * sz)
  | .mat et ie v rows => ∃ xs, w.ownsRow B0 et 1 (L.hd b) rows.length xs ∧ (∀ g, (L.hd b).ownBlock = some g → g = L.ι b) ∧ v = L.top b ∧
      (∀ (i : Nat) es, rows[i]? = some (some es) → xs[i]? = some (L.sub b v i) ∧ inRow B0 w A ie (L.sub b v i) es) ∧
      (∀ (i j : Nat) es es' g, rows[i]? = some (some es) → rows[j]? = some (some es') → (L.sub b v i).ownBlock = some g → (L.sub b v j).ownBlock = some g → i = j) ∧
      (∀ (i : Nat) es g, rows[i]? = some (some es) → (L.sub b v i).ownBlock = some g → (L.hd b).ownBlock ≠ some g) ∧
      (∀ g, own L b (.mat et ie v rows) g → ∀ o, ¬ A g o)
  | .map _ _ kd es => ∃ E clock, w.heap[L.ι b]? = some (.map E clock) ∧ E.size = es.length ∧
      (∀ (j : Nat) p e, es[j]? = some p → E[j]? = some e → Rep w A p.1 e.key ∧ Rep w A p.2 e.val ∧ MapKept.IsKey kd e.key) ∧ (∀ o, ¬ A (L.ι b) o) ∧ (∀ (j : Nat) e, E[j]? = some e → e.born = j) ∧ clock = es.length
  | .iter m n seen => (∃ g, w.heap[L.ι b]? = some (.mapIter g n seen.reverse.toArray n) ∧ ∀ b', m = some b' → g = some (L.ι b')) ∧ ∀ o, ¬ A (L.ι b) o
  | .gone => True

def Bx.men (b : Nat) : Bx → Bool
  | .var cs _ => AV.menL b cs
  | .iter m _ _ => match m with
    | some b' => Nat.beq b b'
    | none => false
  | _ => false
/-- Boxes that are handed over: what they read as; each has its own blocks; what they mention is handed over too. -/
structure HOk (B0 : Nat) (L : Lay) (w : World) (A : Sta) (hs : List (Nat × Bx)) : Prop where
  br : ∀ b x, lk hs b = some x → BR B0 L w A b x
  lo : ∀ b x g, lk hs b = some x → own L b x g → B0 ≤ g ∧ g < w.heap.size
  inj : ∀ b b' x x' g, lk hs b = some x → lk hs b' = some x' → own L b x g → own L b' x' g → b = b'
  cl : ∀ b x b', lk hs b = some x → x.men b' = true → lk hs b' ≠ none
def claims (L : Lay) (hs : List (Nat × Bx)) (g : Nat) : Prop := ∃ b x, lk hs b = some x ∧ own L b x g

/-- CONTRACT of a call that is handed boxes: called with 'xs' and the boxes 'hs' it returns a value that reads as 'v' and leaves the boxes 'us' (those and new ones); nothing else that was there is written. -/
structure EvX (P : Program) (f : FuncId) (xs : List AV) (hs : List (Nat × Bx)) (v : AV) (us : List (Nat × Bx)) : Prop where
  fn : ∃ fn, P.funcs[f]? = some fn ∧ (fn.name == "runtime.NumGoroutine") = false ∧ fn.body.isNone = false
  run : ∀ (B0 : Nat) (w : World) (A : Sta) (L : Lay) (vals : Array Value), B0 ≤ w.heap.size → (∀ g o, A g o → g < w.heap.size) → xs.length = vals.size →
    (∀ (j : Nat) c u, xs[j]? = some c → vals[j]? = some u → RV L w A c u) → (∀ (j : Nat) c b, xs[j]? = some c → c.men b = true → lk hs b ≠ none) → HOk B0 L w A hs →
    Calls P f vals w fun e w' => ∃ u A' L', e = .returned u ∧ RV L' w' A' v u ∧ w'.os = w.os ∧ TapeOn w w' ∧ w'.output = w.output ∧ w.heap.size ≤ w'.heap.size ∧
      (∀ k, k < w.heap.size → ¬ claims L hs k → w'.heap[k]? = w.heap[k]?) ∧
      (∀ g o, A g o → A' g o) ∧ (∀ g o, A g o → w'.cell? ⟨g, o, none⟩ = w.cell? ⟨g, o, none⟩) ∧ (∀ g o, A' g o → g < w'.heap.size) ∧
      (∀ g o, A' g o → A g o ∨ w.heap.size ≤ g ∨ claims L hs g) ∧
      HOk B0 L' w' A' us ∧ (∀ g, claims L' us g → w.heap.size ≤ g ∨ claims L hs g) ∧ (∀ b, lk hs b ≠ none → lk us b ≠ none → L'.eqAt L b) ∧
      (∀ b, v.men b = true → lk us b ≠ none)

structure Need (p A : Prop) : Prop where
  side : p
  rest : A
inductive PickE (es : List D) (i : Nat) (k : D → Prop) : Prop
  | mk (e : D) (h : es[i]? = some e) (r : k e)
inductive PickR (rows : List (Option (List D))) (i : Nat) (k : List D → Prop) : Prop
  | mk (e : List D) (h : rows[i]? = some (some e)) (r : k e)
inductive UnM (rows : List (Option (List D))) (k : List (List D) → Prop) : Prop
  | mk (rs : List (List D)) (h : rows = rs.map some) (r : k rs)
inductive Wr (ik : IntKind) (n : Int) (k : Int → Prop) : Prop
  | mk (z : Int) (h : ik.wrap n = z) (r : k z)
inductive CallK (P : Program) (f : FuncId) (args : List D) (k : D → Prop) : Prop
  | mk (ret : D) (h : Ev P f args ret) (r : k ret)
/-- A map is gone through: an entry that was not met yet, or there is none. -/
structure NextK (es : List (D × D)) (seen : List Nat) (A : Nat → D × D → Prop) (B : Prop) : Prop where
  hit : ∀ j p, es[j]? = some p → j ∉ seen → A j p
  miss : (∀ j, j < es.length → j ∈ seen) → B
/-- A map is looked up: something stands there, or nothing. -/
structure LookK (es : List (D × D)) (k : D) (A : D → Prop) (B : Prop) : Prop where
  hit : ∀ v, mget es k = some v → A v
  miss : mget es k = none → B
/-- A slice is nil, or not: where it has no element, both ways are walked. -/
structure NilK (es : List D) (A B : Prop) : Prop where
  yes : es = [] → A
  no : B
inductive AltK (A B : Prop) : Prop
  | l (h : A)
  | r (h : B)
structure Split (t : Bool) (A B : Prop) : Prop where
  yes : t = true → A
  no : t = false → B

theorem Split.of_true {A B : Prop} (h : A) : Split true A B := ⟨fun _ => h, fun h => (by cases h)⟩
theorem Split.of_false {A B : Prop} (h : B) : Split false A B := ⟨fun h => ((by cases h)), fun _ => h⟩
theorem wrap_in {n : Int} (h : -9223372036854775808 ≤ n ∧ n ≤ 9223372036854775807) : IntKind.i64.wrap n = n := by
  exact IntWalk.i64_in n h
theorem Wr.inr {n : Int} {k : Int → Prop} (h : -9223372036854775808 ≤ n ∧ n ≤ 9223372036854775807) (r : k n) : Wr .i64 n k := ⟨n, wrap_in h, r⟩
theorem Wr.as {ik : IntKind} {n : Int} {k : Int → Prop} (z : Int) (h : ik.wrap n = z) (r : k z) : Wr ik n k := ⟨z, h, r⟩

def hasB : List (Nat × Bx) → Nat → Bool
  | [], _ => false
  | (k, _) :: r, j => match Nat.beq k j with
    | true => true
    | false => hasB r j
def okN (bx : List (Nat × Bx)) : List Nat → Bool
  | [] => true
  | b :: r => match hasB bx b with
    | true => okN bx r
    | false => false
/-- Structs hold one-cell values, tuples hold such or structs. -/
def AV.leaf : AV → Bool
  | .agg _ => false
  | .tup _ => false
  | _ => true
def leafL : List AV → Bool
  | [] => true
  | c :: cs => match c.leaf with
    | true => leafL cs
    | false => false
def AV.wf2 : AV → Bool
  | .agg cs => leafL cs
  | .tup _ => false
  | _ => true
def wfT : List AV → Bool
  | [] => true
  | c :: cs => match c.wf2 with
    | true => wfT cs
    | false => false
def AV.wf : AV → Bool
  | .agg cs => leafL cs
  | .tup cs => wfT cs
  | _ => true
def AV.okIn (bx : List (Nat × Bx)) (v : AV) : Bool := match v.wf with
  | true => okN bx v.mens
  | false => false
def Bx.okIn (bx : List (Nat × Bx)) : Bx → Bool
  | .var cs _ => match leafL cs with
    | true => okN bx (AV.mensL cs)
    | false => false
  | .iter m _ _ => match m with
    | some b => okN bx [b]
    | none => true
  | _ => true

/-! What a call that is handed boxes leaves behind. -/
/-- Names of boxes that a call is handed. -/
def pinned (b : Nat) : Bool := match Nat.ble 1000 b with
  | true => Nat.ble (b + 1) 1100
  | false => false
/-- Names that an operation with the slot t may give to new boxes. -/
def freshN (t b : Nat) : Bool := match Nat.beq b t with
  | true => true
  | false => Nat.beq (b % 2000) t
def isNew (dst : Option Nat) (b : Nat) : Bool := match dst with
  | none => false
  | some t => freshN t b
/-- The names of boxes that come out of a call: each once; the old ones are those that were handed over. -/
def okUs (dst : Option Nat) (hs : List (Nat × Bx)) : List (Nat × Bx) → List (Nat × Bx) → Bool
  | [], seen => coversL seen hs
  | (b, x) :: r, seen => match hasB seen b, hasB hs b, isNew dst b with
    | false, true, _ => okUs dst hs r ((b, x) :: seen)
    | false, false, true => okUs dst hs r ((b, x) :: seen)
    | _, _, _ => false
where
  coversL (seen : List (Nat × Bx)) : List (Nat × Bx) → Bool
    | [] => true
    | (b, _) :: r => match hasB seen b with
      | true => coversL seen r
      | false => false
def someU : List (Nat × Bx) → List (Nat × Option Bx)
  | [] => []
  | (b, x) :: r => (b, some x) :: someU r
def okCl (bx : List (Nat × Bx)) : List (Nat × Bx) → Bool
  | [] => true
  | (_, x) :: r => match x.okIn bx with
    | true => okCl bx r
    | false => false
def okXs (bx : List (Nat × Bx)) : List AV → Bool
  | [] => true
  | v :: r => match v.okIn bx with
    | true => okXs bx r
    | false => false
def rmK {α β : Type} : List (Nat × α) → Nat → (List (Nat × α) → β) → β
  | [], _, k => k []
  | (i, u) :: r, j, k => match Nat.beq i j with
    | true => rmK r j k
    | false => rmK r j fun r' => k ((i, u) :: r')
def pgTK {β : Type} (b : Nat) : List (Nat × AV) → (List (Nat × AV) → β) → β
  | [], k => k []
  | (i, u) :: r, k => match u.men b with
    | true => pgTK b r fun r' => k ((i, .junk) :: r')
    | false => pgTK b r fun r' => k ((i, u) :: r')
def pg1 (b : Nat) (c : AV) : AV := match c.men1 b with
  | true => .junk
  | false => c
def pgM (b : Nat) : Option Nat → Option Nat
  | none => none
  | some m => match Nat.beq b m with
    | true => none
    | false => some m
def pgX (b : Nat) : Bx → Bx
  | .var cs fz => .var (cs.map (pg1 b)) fz
  | .iter m n seen => .iter (pgM b m) n seen
  | x => x
def pgBK {β : Type} (b : Nat) : List (Nat × Bx) → (List (Nat × Bx) → β) → β
  | [], k => k []
  | (i, x) :: r, k => match x with
    | .var cs fz => match AV.menL b cs with
      | true => pgBK b r fun r' => k ((i, .var (cs.map (pg1 b)) fz) :: r')
      | false => pgBK b r fun r' => k ((i, .var cs fz) :: r')
    | .row et sz es fz => pgBK b r fun r' => k ((i, .row et sz es fz) :: r')
    | .arr es fz => pgBK b r fun r' => k ((i, .arr es fz) :: r')
    | .mat et ie v rows => pgBK b r fun r' => k ((i, .mat et ie v rows) :: r')
    | .map kt et kd es => pgBK b r fun r' => k ((i, .map kt et kd es) :: r')
    | .iter m n seen => pgBK b r fun r' => k ((i, .iter (pgM b m) n seen) :: r')
    | .gone => pgBK b r fun r' => k ((i, .gone) :: r')

/-- The boxes' turns; a box whose name fits 'dst' is new. -/
def upsK (dst : Option Nat) : List (Nat × Option Bx) → St → (St → Prop) → Prop
  | [], σ, K => K σ
  | (b, u) :: r, ⟨T, bx⟩, K => match u with
    | none => rmK bx b fun bx' => pgBK b bx' fun bx'' => pgTK b T fun T' => upsK dst r ⟨T', bx''⟩ K
    | some x => match x.okIn bx with
      | true => match isNew dst b, pinned b, lk bx b with
        | true, false, none => stK bx b x fun bx' => upsK dst r ⟨T, bx'⟩ K
        | false, _, some _ => stK bx b x fun bx' => upsK dst r ⟨T, bx'⟩ K
        | _, _, _ => False
      | false => False

def putK (N : Nat) (dst : Option Nat) : St → AV → (St → Prop) → Prop
  | ⟨T, bx⟩, v, K => match dst with
    | none => K ⟨T, bx⟩
    | some t => match Nat.ble (t + 1) N, v.okIn bx with
      | true, true => forceK v fun v' => stK T t v' fun T' => K ⟨T', bx⟩
      | _, _ => False

inductive CallX (P : Program) (t : Option Nat) (f : FuncId) (xs : List AV) (hs : List (Nat × Bx)) (k : AV → List (Nat × Option Bx) → Prop) : Prop
  | mk (v : AV) (us : List (Nat × Bx)) (h : EvX P f xs hs v us) (ok : (okUs t hs us [] && okXs hs xs && okCl hs hs) = true) (r : k v (someU us))

def act (P : Program) (N : Nat) (dst : Option Nat) (σ : St) (K : St → Prop) (r : Res) : Prop :=
  @Res.rec (fun _ => Prop) (fun v ups => upsK dst ups σ fun σ' => putK N dst σ' v K)
    (fun f args ups => CallK P f args fun r => upsK dst ups σ fun σ' => putK N dst σ' (.d r) K)
    (fun t f xs hs => CallX P t f xs hs fun v ups => upsK dst ups σ fun σ' => putK N dst σ' v K)
    (fun p _ ih => Need p ih) (fun es i _ ih => PickE es i ih) (fun rows i _ ih => PickR rows i ih) (fun rows _ ih => UnM rows ih) (fun ik n _ ih => Wr ik n ih) (fun _ _ a b => AltK a b) (fun es k _ _ a b => LookK es k a b) (fun es _ _ a b => NilK es a b) (fun es seen _ _ a b => NextK es seen a b) False r
def step (P : Program) (S : Tys) (N : Nat) (o : Oper) (σ : St) (K : St → Prop) : Prop := act P N o.dst σ K (eff S false o σ.ev (lk σ.bx))

/-- Is operation 'idx' the guard of another one? -/
def isG (idx : Nat) : List Oper → Bool
  | [] => false
  | o :: r => match o.guard with
    | some (j, _) => match Nat.beq j idx with
      | true => true
      | false => isG idx r
    | none => isG idx r
/-- A guard's bool is made a literal: the ways part here. -/
def gsp (g : Bool) (N : Nat) (dst : Option Nat) (σ : St) (K : St → Prop) : Prop := match g with
  | false => K σ
  | true => match dst with
    | none => K σ
    | some t => match σ.get t with
      | .d (.bool b) => Split b (putK N dst σ (.d (.bool true)) K) (putK N dst σ (.d (.bool false)) K)
      | _ => K σ

def dstOf (all : List Oper) (j : Nat) : Option Nat := match all[j]? with
  | some o => o.dst
  | none => none
inductive Go3 where | go | skip | stop
def wantedA (all : List Oper) (o : Oper) (σ : St) : Go3 := match o.guard with
  | none => .go
  | some (j, want) => match dstOf all j with
    | none => .skip
    | some t => match σ.get t with
      | .d (.bool b) => match b, want with
        | true, true => .go
        | false, false => .go
        | true, false => .skip
        | false, true => .skip
      | .undef => .skip
      | _ => .stop

def steps (P : Program) (S : Tys) (N : Nat) (all : List Oper) (idx : Nat) (l : List Oper) : St → (St → Prop) → Prop :=
  @List.rec Oper (fun _ => Nat → St → (St → Prop) → Prop) (fun _ σ K => K σ)
    (fun o _ ih idx σ K => match wantedA all o σ with
      | .go => step P S N o σ fun σ' => gsp (isG idx all) N o.dst σ' fun σ'' => ih (idx + 1) σ'' K
      | .skip => putK N o.dst σ .undef fun σ' => ih (idx + 1) σ' K
      | .stop => False) l idx
theorem steps_cons {P : Program} {S : Tys} {N : Nat} {all : List Oper} {idx : Nat} {o : Oper} {r : List Oper} {σ : St} {K : St → Prop} : steps P S N all idx (o :: r) σ K = match wantedA all o σ with
    | .go => step P S N o σ fun σ' => gsp (isG idx all) N o.dst σ' fun σ'' => steps P S N all (idx + 1) r σ'' K
    | .skip => putK N o.dst σ .undef fun σ' => steps P S N all (idx + 1) r σ' K
    | .stop => False := rfl

/-! Regions that draw their order: each operation's label (boxes read, written, made, mentioned by its result). -/
structure Lab where
  rd : Nat
  wr : Nat
  cr : Nat
  mt : Nat
def maskF : List Nat → Nat → Nat
  | [], acc => acc
  | b :: r, acc => maskF r (Nat.lor acc (Nat.shiftLeft 1 b))
def maskL (l : List Nat) : Nat := maskF l 0
def bitM (m j : Nat) : Bool := Nat.beq (Nat.land (Nat.shiftRight m j) 1) 1
def forceN {β : Type} (n : Nat) (k : Nat → β) : β := match n with
  | 0 => k 0
  | n + 1 => k (n + 1)
def Res.keys : List (Nat × Option Bx) → List Nat
  | [] => []
  | (b, _) :: r => b :: Res.keys r
/-- May this operation touch boxes at all? -/
def touches : Op → Bool
  | .move _ => false
  | .assign _ => false
  | .pick _ _ _ => false
  | .build _ _ => false
  | .binOp _ _ _ _ _ => false
  | .unOp _ _ _ => false
  | .convert _ _ _ => false
  | .fieldAddr _ _ _ => false
  | .field _ _ _ => false
  | .index _ _ _ => false
  | .extract _ _ => false
  | .alloc _ => false
  | .box _ _ => false
  | .makeFunc _ _ _ => false
  | _ => true
def opndMens (ρ : Operand → AV) : List Operand → List Nat
  | [] => []
  | x :: xs => (ρ x).mens ++ opndMens ρ xs

def upsMens : List (Nat × Option Bx) → List Nat
  | [] => []
  | (_, some x) :: r => x.mens ++ upsMens r
  | (_, none) :: r => upsMens r
/-- 'act', the value and the boxes' turns handed on. -/
def actU (P : Program) (N : Nat) (dst : Option Nat) (σ : St) (K : AV → List (Nat × Option Bx) → St → Prop) (r : Res) : Prop :=
  @Res.rec (fun _ => Prop) (fun v ups => upsK dst ups σ fun σ' => putK N dst σ' v (K v ups))
    (fun f args ups => CallK P f args fun r => upsK dst ups σ fun σ' => putK N dst σ' (.d r) (K (.d r) ups))
    (fun t f xs hs => CallX P t f xs hs fun v ups => upsK dst ups σ fun σ' => putK N dst σ' v (K v ups))
    (fun p _ ih => Need p ih) (fun es i _ ih => PickE es i ih) (fun rows i _ ih => PickR rows i ih) (fun rows _ ih => UnM rows ih) (fun ik n _ ih => Wr ik n ih) (fun _ _ a b => AltK a b) (fun es k _ _ a b => LookK es k a b) (fun _ _ _ _ _ => False) (fun _ _ _ _ _ _ => False) False r
/-- The names that 'handL' looks up. -/
def handV (B : Nat → Option Bx) : Nat → List Nat → List (Nat × Bx) → List Nat
  | 0, _, _ => []
  | _ + 1, [], _ => []
  | f + 1, b :: r, acc => b :: (match lk acc b with
    | some _ => handV B f r acc
    | none => match B b with
      | some x => handV B f (x.mens ++ r) ((b, x) :: acc)
      | none => handV B f r acc)
/-- The boxes that an operation may read. -/
def readsOf (o : Oper) (ρ : Operand → AV) (B : Nat → Option Bx) : List Nat := match touches o.op with
  | false => []
  | true => match o.op with
    | .call ⟨.value f, args, _⟩ => opndMens ρ (f :: args.toList) ++ handV B 200 (opndMens ρ args.toList ++ (ρ f).mens) []
    | .next x _ => opndMens ρ [x] ++ handV B 200 (opndMens ρ [x]) []
    | .entry x => opndMens ρ [x] ++ handV B 200 (opndMens ρ [x]) []
    | op => opndMens ρ op.operands.toList
/-- The names that are new. -/
def newOf (B : Nat → Option Bx) : List (Nat × Option Bx) → List Nat
  | [] => []
  | (b, _) :: r => match B b with
    | some _ => newOf B r
    | none => b :: newOf B r
def labOf (o : Oper) (ρ : Operand → AV) (B : Nat → Option Bx) (v : AV) (ups : List (Nat × Option Bx)) : Lab :=
  ⟨maskL (readsOf o ρ B), maskL (Res.keys ups), maskL (newOf B ups), maskL (v.mens ++ upsMens ups)⟩
/-- The mask is gathered as a closed number: it names no variable of the walk. -/
def maskK {β : Type} : List Nat → Nat → (Nat → β) → β
  | [], acc, k => forceN acc k
  | b :: r, acc, k => maskK r (Nat.lor acc (Nat.shiftLeft 1 b)) k
def labK {β : Type} (o : Oper) (ρ : Operand → AV) (B : Nat → Option Bx) (v : AV) (ups : List (Nat × Option Bx)) (k : Lab → β) : β :=
  maskK (readsOf o ρ B) 0 fun a => maskK (Res.keys ups) 0 fun b => maskK (newOf B ups) 0 fun c => maskK (v.mens ++ upsMens ups) 0 fun d => k ⟨a, b, c, d⟩
def noKill : List (Nat × Option Bx) → Bool
  | [] => true
  | (_, none) :: _ => false
  | (_, some _) :: r => noKill r
def memN (x : Nat) : List Nat → Bool
  | [] => false
  | y :: ys => match Nat.beq x y with
    | true => true
    | false => memN x ys
def disjM (a b : Nat) : Bool := Nat.beq (Nat.land a b) 0
def okPair (a b : Lab) : Bool := match disjM a.wr b.rd, disjM b.wr a.rd, disjM a.wr b.wr with
  | true, true, true => match disjM a.cr b.mt, disjM b.cr a.mt with
    | true, true => true
    | _, _ => false
  | _, _, _ => false
/-- The temporaries that an operation looks at (its guard's too). -/
def looksL (all : List Oper) (o : Oper) : List Nat := tmpsOf o.op.operands.toList ++ (match o.guard with
  | some (j, _) => (match dstOf all j with
    | some t => [t]
    | none => [])
  | none => [])
where
  tmpsOf : List Operand → List Nat
    | [] => []
    | .tmp t :: r => t :: tmpsOf r
    | _ :: r => tmpsOf r
def apartL (all : List Oper) (x y : Oper) : Bool :=
  (match x.dst with
  | some d => (match memN d (looksL all y), y.dst with
    | false, some d' => (match Nat.beq d d' with
      | true => false
      | false => true)
    | false, none => true
    | true, _ => false)
  | none => true) &&
  (match y.dst with
  | some d => (match memN d (looksL all x) with
    | true => false
    | false => true)
  | none => true)
/-- What must come before: each operation's own edges and those behind them. -/
def onsOf : List Edge → List Nat
  | [] => []
  | e :: r => match Region.binds .any e with
    | true => e.on :: onsOf r
    | false => onsOf r
def getM (cl : List (Nat × Nat)) (j : Nat) : Nat := match lk cl j with
  | some m => m
  | none => 0
def onsM (cl : List (Nat × Nat)) : List Nat → Nat
  | [] => 0
  | j :: r => Nat.lor (Nat.lor (Nat.shiftLeft 1 j) (getM cl j)) (onsM cl r)
def reachK {β : Type} : Nat → List Oper → List (Nat × Nat) → (List (Nat × Nat) → β) → β
  | _, [], cl, k => k cl
  | i, o :: r, cl, k => forceN (onsM cl (onsOf o.after.toList)) fun m => reachK (i + 1) r ((i, m) :: cl) k
/-- All edges lead back. -/
def backL : Nat → List Oper → Bool
  | _, [] => true
  | i, o :: r => (onsOf o.after.toList).all (fun j => Nat.ble (j + 1) i) && backL (i + 1) r
/-- An operation against those before it, whose labels are known. -/
def okAgainst (all : List Oper) (o : Oper) (l : Lab) (m : Nat) : List (Nat × Oper × Lab) → Bool
  | [] => true
  | (j, p, lj) :: r => match bitM m j with
    | true => okAgainst all o l m r
    | false => match okPair lj l, apartL all p o with
      | true, true => okAgainst all o l m r
      | _, _ => false
/-- A region that draws its order: walked once, in the order of the text; what may come in another order does not touch. -/
def stepsD (P : Program) (S : Tys) (N : Nat) (all : List Oper) (cl : List (Nat × Nat)) (idx : Nat) (l : List Oper) : St → List (Nat × Oper × Lab) → (St → Prop) → Prop :=
  @List.rec Oper (fun _ => Nat → St → List (Nat × Oper × Lab) → (St → Prop) → Prop) (fun _ σ _ K => K σ)
    (fun o _ ih idx σ pv K => match wantedA all o σ with
      | .go => actU P N o.dst σ (fun v ups σ' => match noKill ups with
          | true => labK o σ.ev (lk σ.bx) v ups fun l => match okAgainst all o l (getM cl idx) pv with
            | true => gsp (isG idx all) N o.dst σ' fun σ'' => ih (idx + 1) σ'' ((idx, o, l) :: pv) K
            | false => False
          | false => False) (eff S true o σ.ev (lk σ.bx))
      | .skip => match okAgainst all o ⟨0, 0, 0, 0⟩ (getM cl idx) pv with
        | true => putK N o.dst σ .undef fun σ' => ih (idx + 1) σ' ((idx, o, ⟨0, 0, 0, 0⟩) :: pv) K
        | false => False
      | .stop => False) l idx
theorem stepsD_cons {P : Program} {S : Tys} {N : Nat} {all : List Oper} {cl : List (Nat × Nat)} {idx : Nat} {o : Oper} {r : List Oper} {σ : St} {pv : List (Nat × Oper × Lab)} {K : St → Prop} : stepsD P S N all cl idx (o :: r) σ pv K = match wantedA all o σ with
    | .go => actU P N o.dst σ (fun v ups σ' => match noKill ups with
        | true => labK o σ.ev (lk σ.bx) v ups fun l => match okAgainst all o l (getM cl idx) pv with
          | true => gsp (isG idx all) N o.dst σ' fun σ'' => stepsD P S N all cl (idx + 1) r σ'' ((idx, o, l) :: pv) K
          | false => False
        | false => False) (eff S true o σ.ev (lk σ.bx))
    | .skip => match okAgainst all o ⟨0, 0, 0, 0⟩ (getM cl idx) pv with
      | true => putK N o.dst σ .undef fun σ' => stepsD P S N all cl (idx + 1) r σ' ((idx, o, ⟨0, 0, 0, 0⟩) :: pv) K
      | false => False
    | .stop => False := rfl
def regD (P : Program) (S : Tys) (N : Nat) (all : List Oper) (σ : St) (K : St → Prop) : Prop := match backL 0 all with
  | true => reachK 0 all [] fun cl => stepsD P S N all cl 0 all σ [] K
  | false => False

inductive Ex where
  | normal
  | exit (id : Nat)
  | ret

/-- 'τ' forgets some of what 'σ' knows; 'f' gives σ's name for each of τ's boxes ('none': a slice that is still nil). -/
def leC (f : Nat → Option Nat) : List Cap → List Cap → Prop
  | [], [] => True
  | u :: us, v :: vs => (match v with
    | .box b => match f b with
      | some b' => u = .box b'
      | none => False
    | .dat x => u = .dat x) ∧ leC f us vs
  | _, _ => False
def leA (f : Nat → Option Nat) (u : AV) : AV → Prop
  | .d x => u = .d x
  | .ptr b off => match f b with
    | some b' => u = .ptr b' off
    | none => False
  | .own b sz n => match f b with
    | some b' => u = .own b' sz n
    | none => (∃ s, u = .nil s) ∧ n = 0
  | .nil sz => u = .nil sz
  | .eptr b sz i off => match f b with
    | some b' => u = .eptr b' sz i off
    | none => False
  | .sptr b sz i j => match f b with
    | some b' => u = .sptr b' sz i j
    | none => False
  | .mp b => match f b with
    | some b' => u = .mp b'
    | none => False
  | .view b sz lo hi => match f b with
    | some b' => u = .view b' sz lo hi
    | none => False
  | .sub b v i => pinned b = true ∧ u = .sub b v i
  | .fnv g cs => match u with
    | .fnv g' cs' => g' = g ∧ leC f cs' cs
    | _ => False
  | .junk => True
  | _ => False
def leL (f : Nat → Option Nat) : List AV → List AV → Prop
  | [], [] => True
  | u :: us, v :: vs => leA f u v ∧ leL f us vs
  | _, _ => False
/-- Values with structs in them. -/
def leA2 (f : Nat → Option Nat) (u : AV) : AV → Prop
  | .agg vs => match u with
    | .agg us => leL f us vs ∧ vs.all AV.one = true
    | _ => False
  | v => leA f u v
def leT2 (f : Nat → Option Nat) : List AV → List AV → Prop
  | [], [] => True
  | u :: us, v :: vs => leA2 f u v ∧ leT2 f us vs
  | _, _ => False
def leA3 (f : Nat → Option Nat) (u : AV) : AV → Prop
  | .tup vs => match u with
    | .tup us => leT2 f us vs
    | _ => False
  | v => leA2 f u v
def leX (f : Nat → Option Nat) (u : Option Bx) (b : Nat) : Bx → Prop
  | .var cs fz => f b ≠ none ∧ match u with
    | some (.var cs' fz') => leL f cs' cs ∧ (fz' = true → fz = true)
    | _ => False
  | .row et sz es fz => match f b with
    | none => es = []
    | some _ => match u with
      | some (.row et' sz' es' fz') => et' = et ∧ sz' = sz ∧ es' = es ∧ (fz' = true → fz = true)
      | _ => False
  | .arr es fz => f b ≠ none ∧ match u with
    | some (.arr es' fz') => es' = es ∧ (fz' = true → fz = true)
    | _ => False
  | .map kt et kd es => f b ≠ none ∧ match u with
    | some (.map kt' et' kd' es') => kt' = kt ∧ et' = et ∧ kd' = kd ∧ es' = es
    | _ => False
  | .iter m n seen => f b ≠ none ∧ match u with
    | some (.iter m' n' seen') => n' = n ∧ seen' = seen ∧ match m with
      | none => True
      | some c => match f c with
        | some c' => m' = some c'
        | none => False
    | _ => False
  | .gone => f b ≠ none ∧ match u with
    | some .gone => True
    | _ => False
  | .mat et ie v rows => match f b with
    | none => rows = []
    | some _ => match u with
      | some (.mat et' ie' v' rows') => et' = et ∧ ie' = ie ∧ rows' = rows ∧ (pinned b = true → v' = v)
      | _ => False
def leT (f : Nat → Option Nat) (σ : St) : List (Nat × AV) → Prop
  | [] => True
  | (t, v) :: r => leA3 f (σ.get t) v ∧ leT f σ r
def leB (f : Nat → Option Nat) (σ : St) : List (Nat × Bx) → Prop
  | [] => True
  | (b, x) :: r => leX f (match f b with | some b' => lk σ.bx b' | none => none) b x ∧ leB f σ r
def okAll (bx : List (Nat × Bx)) : List (Nat × AV) → Bool
  | [] => true
  | (_, v) :: r => match v.okIn bx with
    | true => okAll bx r
    | false => false
def okAllB (bx : List (Nat × Bx)) : List (Nat × Bx) → Bool
  | [] => true
  | (_, x) :: r => match x.okIn bx with
    | true => okAllB bx r
    | false => false
/-- Names: τ's to σ's, as a list; a name that is not in it stands for itself. -/
def rnF (rn : List (Nat × Option Nat)) (b : Nat) : Option Nat := match lk rn b with
  | some x => x
  | none => some b
def okRn (rn : List (Nat × Option Nat)) : List (Nat × Bx) → List Nat → Bool
  | [], _ => true
  | (b, _) :: r, seen => match rnF rn b with
    | none => okRn rn r seen
    | some b' => match seen.contains b' with
      | true => false
      | false => okRn rn r (b' :: seen)
def okKeys : List (Nat × Option Nat) → Bool
  | [] => true
  | (k, _) :: r => match pinned k with
    | false => okKeys r
    | true => false
structure Le (σ τ : St) (rn : List (Nat × Option Nat)) : Prop where
  hT : leT (rnF rn) σ τ.T
  hB : leB (rnF rn) σ τ.bx
  hok : (okAll τ.bx τ.T && okAllB τ.bx τ.bx && okRn rn τ.bx [] && okKeys rn) = true

/-- The next round may begin. -/
inductive Again {ι : Type} (I : ι → Prop) (Sk : ι → St) (less : ι → Prop) (σ : St) : Prop
  | mk (i' : ι) (rn : List (Nat × Option Nat)) (hi : I i') (hm : less i') (hl : Le σ (Sk i') rn)
/-- A loop that is walked round by round. -/
def Unr (W : (Ex → St → Prop) → St → Prop) (K : Ex → St → Prop) : Nat → St → Prop
  | 0, _ => False
  | n + 1, σ => W (fun e σ' => match e with
    | .normal => Unr W K n σ'
    | .exit i => K (.exit i) σ'
    | .ret => K .ret σ') σ
inductive LoopK (W : (Ex → St → Prop) → St → Prop) (K : Ex → St → Prop) (σ : St) (m : Nat) : Prop
  | mk {ι : Type} (I : ι → Prop) (Sk : ι → St) (μ : ι → Nat) (i0 : ι) (rn0 : List (Nat × Option Nat)) (hi0 : I i0) (h0 : Le σ (Sk i0) rn0)
      (round : ∀ i, I i → W (fun e σ' => match e with
        | .normal => Again I Sk (fun i' => μ i' < μ i) σ'
        | e => K e σ') (Sk i))
  | unr (n : Nat) (h : Unr W K n σ)

/-- The temporaries that a body writes, as a mask. -/
def dstL : List Oper → Nat → Nat
  | [], m => m
  | o :: r, m => match o.dst with
    | some t => forceN (Nat.lor m (Nat.shiftLeft 1 t)) fun m' => dstL r m'
    | none => dstL r m
noncomputable def dstM (c : Code) : Nat :=
  @Code.rec (fun _ => Nat) 0 (fun _ ops _ => dstL ops.toList 0) (fun _ _ a b => Nat.lor a b) (fun _ _ _ a b => Nat.lor a b) (fun _ _ a => a) (fun _ a => a)
    (fun _ _ _ _ a b => Nat.lor a b) (fun _ => 0) (fun _ a => a) (fun _ => 0) (fun _ => 0) 0 (fun _ => 0) c

def awp (P : Program) (S : Tys) (N : Nat) (c : Code) : (Ex → St → Prop) → St → Prop :=
  @Code.rec (fun _ => (Ex → St → Prop) → St → Prop) (fun K σ => K .normal σ)
    (fun _ ops draw K σ => match draw with
      | false => steps P S N ops.toList 0 ops.toList σ (K .normal)
      | true => regD P S N ops.toList σ (K .normal))
    (fun _ _ iha ihb K σ => iha (fun e σ' => match e with
      | .normal => ihb K σ'
      | .exit i => K (.exit i) σ'
      | .ret => K .ret σ') σ)
    (fun c _ _ iha ihb K σ => match σ.ev c with
      | .d (.bool t) => Split t (iha K σ) (ihb K σ)
      | _ => False)
    (fun id _ ih K σ => ih (fun e σ' => match e with
      | .exit i => match Nat.beq i id with
        | true => K .normal σ'
        | false => K (.exit i) σ'
      | .normal => K .normal σ'
      | .ret => K .ret σ') σ)
    (fun body ih K σ => forceN (dstM body) fun m => LoopK (fun K' σ' => ih K' σ') K σ m)
    (fun _ _ _ _ _ _ _ _ => False)
    (fun i K σ => K (.exit i) σ)
    (fun _ _ _ _ => False) (fun _ _ _ => False) (fun _ _ _ => False)
    (fun K σ => K .ret σ)
    (fun _ _ _ => False)
    c
theorem awp_cond {P : Program} {S : Tys} {N : Nat} {c : Operand} {a b : Code} {K : Ex → St → Prop} {σ : St} : awp P S N (.cond c a b) K σ = match σ.ev c with
    | .d (.bool t) => Split t (awp P S N a K σ) (awp P S N b K σ)
    | _ => False := rfl
end Go.Vm
