/- The evaluator of regions and bodies; what a contract 'Ev' says. -/
import Derived.Test.YtgfaonnajdoeoaaVmB
import Derived.IntWalk
namespace Go.Vm
open Go.RowKit (Below)

/-- CONTRACT: called with data that read as 'args', function f returns a value that reads as 'ret'; nothing that was there is written. -/
def Ev (P : Program) (f : FuncId) (args : List D) (ret : D) : Prop :=
  (∃ fn, P.funcs[f]? = some fn ∧ (fn.name == "runtime.NumGoroutine") = false ∧ fn.body.isNone = false) ∧
  ∀ (w : World) (A : Sta) (vals : Array Value), (∀ g o, A g o → g < w.heap.size) → args.length = vals.size →
    (∀ (j : Nat) c v, args[j]? = some c → vals[j]? = some v → Rep w A c v) →
    Calls P f vals w fun e w' => ∃ v A', e = .returned v ∧ Rep w' A' ret v ∧ Below w.heap.size w w' ∧
      (∀ g o, A g o → A' g o) ∧ (∀ g o, A' g o → g < w'.heap.size) ∧ (∀ g o, A' g o → A g o ∨ w.heap.size ≤ g)

structure Need (p A : Prop) : Prop where
  side : p
  rest : A
inductive PickE (es : List D) (i : Nat) (k : D → Prop) : Prop
  | mk (e : D) (h : es[i]? = some e) (r : k e)
inductive Wr (ik : IntKind) (n : Int) (k : Int → Prop) : Prop
  | mk (z : Int) (h : ik.wrap n = z) (r : k z)
inductive CallK (P : Program) (f : FuncId) (args : List D) (k : D → Prop) : Prop
  | mk (ret : D) (h : Ev P f args ret) (r : k ret)
structure Split (t : Bool) (A B : Prop) : Prop where
  yes : t = true → A
  no : t = false → B

theorem Split.of_true {A B : Prop} (h : A) : Split true A B := ⟨fun _ => h, fun h => (by cases h)⟩
theorem Split.of_false {A B : Prop} (h : B) : Split false A B := ⟨fun h => ((by cases h)), fun _ => h⟩
theorem wrap_in {n : Int} (h : -9223372036854775808 ≤ n ∧ n ≤ 9223372036854775807) : IntKind.i64.wrap n = n := by
  exact IntWalk.i64_in n h
theorem Wr.inr {n : Int} {k : Int → Prop} (h : -9223372036854775808 ≤ n ∧ n ≤ 9223372036854775807) (r : k n) : Wr .i64 n k := ⟨n, wrap_in h, r⟩
theorem Wr.as {ik : IntKind} {n : Int} {k : Int → Prop} (z : Int) (h : ik.wrap n = z) (r : k z) : Wr ik n k := ⟨z, h, r⟩

def AV.okIn (bx : List (Nat × Bx)) : AV → Bool
  | .agg cs => okL cs
  | .d _ => true
  | .ptr b _ => has bx b
  | .eptr b _ _ _ => has bx b
  | .own b _ _ => has bx b
  | .nil _ => true
  | .undef => true
  | .junk => true
where
  has : List (Nat × Bx) → Nat → Bool
    | [], _ => false
    | (k, _) :: r, j => match Nat.beq k j with
      | true => true
      | false => has r j
  ok1 : AV → Bool
    | .agg _ => false
    | .d _ => true
    | .ptr b _ => has bx b
    | .eptr b _ _ _ => has bx b
    | .own b _ _ => has bx b
    | .nil _ => true
    | .undef => true
    | .junk => true
  okL : List AV → Bool
    | [] => true
    | c :: cs => match ok1 c with
      | true => okL cs
      | false => false
def Bx.okIn (bx : List (Nat × Bx)) : Bx → Bool
  | .var cs _ => AV.okIn.okL bx cs
  | .row _ _ _ _ => true

def rmK {α β : Type} : List (Nat × α) → Nat → (List (Nat × α) → β) → β
  | [], _, k => k []
  | (i, u) :: r, j, k => match Nat.beq i j with
    | true => rmK r j k
    | false => rmK r j fun r' => k ((i, u) :: r')
def pgTK {β : Type} (b : Nat) : List (Nat × AV) → (List (Nat × AV) → β) → β
  | [], k => k []
  | (i, u) :: r, k => match u.men b with
    | true => pgTK b r fun r' => k ((i, .junk) :: r')
    | false => pgTK b r fun r' => k ((i, u) :: r')
def pg1 (b : Nat) (c : AV) : AV := match c.men1 b with
  | true => .junk
  | false => c
def pgX (b : Nat) : Bx → Bx
  | .var cs fz => .var (cs.map (pg1 b)) fz
  | x => x
def pgBK {β : Type} (b : Nat) : List (Nat × Bx) → (List (Nat × Bx) → β) → β
  | [], k => k []
  | (i, x) :: r, k => match x with
    | .var cs fz => match AV.menL b cs with
      | true => pgBK b r fun r' => k ((i, .var (cs.map (pg1 b)) fz) :: r')
      | false => pgBK b r fun r' => k ((i, .var cs fz) :: r')
    | .row et sz es fz => pgBK b r fun r' => k ((i, .row et sz es fz) :: r')

/-- The boxes' turns; a box with the name 'dst' is new. -/
def upsK (dst : Option Nat) : List (Nat × Option Bx) → St → (St → Prop) → Prop
  | [], σ, K => K σ
  | (b, u) :: r, ⟨T, bx⟩, K => match u with
    | none => rmK bx b fun bx' => pgBK b bx' fun bx'' => pgTK b T fun T' => upsK dst r ⟨T', bx''⟩ K
    | some x => match dst with
      | none => match lk bx b, x.okIn bx with
        | some _, true => stK bx b x fun bx' => upsK dst r ⟨T, bx'⟩ K
        | _, _ => False
      | some t => match Nat.beq t b with
        | true => match lk bx b, x.okIn bx with
          | none, true => stK bx b x fun bx' => upsK dst r ⟨T, bx'⟩ K
          | _, _ => False
        | false => match lk bx b, x.okIn bx with
          | some _, true => stK bx b x fun bx' => upsK dst r ⟨T, bx'⟩ K
          | _, _ => False

def putK (N : Nat) (dst : Option Nat) : St → AV → (St → Prop) → Prop
  | ⟨T, bx⟩, v, K => match dst with
    | none => K ⟨T, bx⟩
    | some t => match Nat.ble (t + 1) N, v.okIn bx with
      | true, true => forceK v fun v' => stK T t v' fun T' => K ⟨T', bx⟩
      | _, _ => False

def act (P : Program) (N : Nat) (dst : Option Nat) (σ : St) (K : St → Prop) (r : Res) : Prop :=
  @Res.rec (fun _ => Prop) (fun v ups => upsK dst ups σ fun σ' => putK N dst σ' v K)
    (fun f args ups => CallK P f args fun r => upsK dst ups σ fun σ' => putK N dst σ' (.d r) K)
    (fun p _ ih => Need p ih) (fun es i _ ih => PickE es i ih) (fun ik n _ ih => Wr ik n ih) False r
def step (P : Program) (S : Tys) (N : Nat) (o : Oper) (σ : St) (K : St → Prop) : Prop := act P N o.dst σ K (eff S o σ.ev (lk σ.bx))

/-- Is operation 'idx' the guard of another one? -/
def isG (idx : Nat) : List Oper → Bool
  | [] => false
  | o :: r => match o.guard with
    | some (j, _) => match Nat.beq j idx with
      | true => true
      | false => isG idx r
    | none => isG idx r
/-- A guard's bool is made a literal: the ways part here. -/
def gsp (g : Bool) (N : Nat) (dst : Option Nat) (σ : St) (K : St → Prop) : Prop := match g with
  | false => K σ
  | true => match dst with
    | none => K σ
    | some t => match σ.get t with
      | .d (.bool b) => Split b (putK N dst σ (.d (.bool true)) K) (putK N dst σ (.d (.bool false)) K)
      | _ => K σ

def dstOf (all : List Oper) (j : Nat) : Option Nat := match all[j]? with
  | some o => o.dst
  | none => none
inductive Go3 where | go | skip | stop
def wantedA (all : List Oper) (o : Oper) (σ : St) : Go3 := match o.guard with
  | none => .go
  | some (j, want) => match dstOf all j with
    | none => .skip
    | some t => match σ.get t with
      | .d (.bool b) => match b, want with
        | true, true => .go
        | false, false => .go
        | true, false => .skip
        | false, true => .skip
      | .undef => .skip
      | _ => .stop

def steps (P : Program) (S : Tys) (N : Nat) (all : List Oper) (idx : Nat) (l : List Oper) : St → (St → Prop) → Prop :=
  @List.rec Oper (fun _ => Nat → St → (St → Prop) → Prop) (fun _ σ K => K σ)
    (fun o _ ih idx σ K => match wantedA all o σ with
      | .go => step P S N o σ fun σ' => gsp (isG idx all) N o.dst σ' fun σ'' => ih (idx + 1) σ'' K
      | .skip => putK N o.dst σ .undef fun σ' => ih (idx + 1) σ' K
      | .stop => False) l idx
theorem steps_cons {P : Program} {S : Tys} {N : Nat} {all : List Oper} {idx : Nat} {o : Oper} {r : List Oper} {σ : St} {K : St → Prop} : steps P S N all idx (o :: r) σ K = match wantedA all o σ with
    | .go => step P S N o σ fun σ' => gsp (isG idx all) N o.dst σ' fun σ'' => steps P S N all (idx + 1) r σ'' K
    | .skip => putK N o.dst σ .undef fun σ' => steps P S N all (idx + 1) r σ' K
    | .stop => False := rfl

/-! Regions that draw their order: each operation's label (boxes read, written, made, mentioned by its result). -/
structure Lab where
  rd : Nat
  wr : Nat
  cr : Nat
  mt : Nat
def maskF : List Nat → Nat → Nat
  | [], acc => acc
  | b :: r, acc => maskF r (Nat.lor acc (Nat.shiftLeft 1 b))
def maskL (l : List Nat) : Nat := maskF l 0
def bitM (m j : Nat) : Bool := Nat.beq (Nat.land (Nat.shiftRight m j) 1) 1
def forceN {β : Type} (n : Nat) (k : Nat → β) : β := match n with
  | 0 => k 0
  | n + 1 => k (n + 1)
def AV.mens : AV → List Nat
  | .agg cs => mensL cs
  | .ptr b _ => [b]
  | .eptr b _ _ _ => [b]
  | .own b _ _ => [b]
  | .d _ => []
  | .nil _ => []
  | .undef => []
  | .junk => []
where
  mens1 : AV → List Nat
    | .ptr b _ => [b]
    | .eptr b _ _ _ => [b]
    | .own b _ _ => [b]
    | _ => []
  mensL : List AV → List Nat
    | [] => []
    | c :: cs => match mens1 c with
      | [] => mensL cs
      | b :: _ => b :: mensL cs
def Res.keys : List (Nat × Option Bx) → List Nat
  | [] => []
  | (b, _) :: r => b :: Res.keys r
/-- May this operation touch boxes at all? -/
def touches : Op → Bool
  | .move _ => false
  | .assign _ => false
  | .pick _ _ _ => false
  | .build _ _ => false
  | .binOp _ _ _ _ _ => false
  | .unOp _ _ _ => false
  | .convert _ _ _ => false
  | .fieldAddr _ _ _ => false
  | .field _ _ _ => false
  | .index _ _ _ => false
  | .extract _ _ => false
  | .alloc _ => false
  | .box _ _ => false
  | _ => true
def opndMens (ρ : Operand → AV) : List Operand → List Nat
  | [] => []
  | x :: xs => (ρ x).mens ++ opndMens ρ xs

def Bx.mens : Bx → List Nat
  | .var cs _ => AV.mens.mensL cs
  | .row _ _ _ _ => []
def upsMens : List (Nat × Option Bx) → List Nat
  | [] => []
  | (_, some x) :: r => x.mens ++ upsMens r
  | (_, none) :: r => upsMens r
/-- 'act', the value and the boxes' turns handed on. -/
def actU (P : Program) (N : Nat) (dst : Option Nat) (σ : St) (K : AV → List (Nat × Option Bx) → St → Prop) (r : Res) : Prop :=
  @Res.rec (fun _ => Prop) (fun v ups => upsK dst ups σ fun σ' => putK N dst σ' v (K v ups))
    (fun f args ups => CallK P f args fun r => upsK dst ups σ fun σ' => putK N dst σ' (.d r) (K (.d r) ups))
    (fun p _ ih => Need p ih) (fun es i _ ih => PickE es i ih) (fun ik n _ ih => Wr ik n ih) False r
def labOf (o : Oper) (ρ : Operand → AV) (v : AV) (ups : List (Nat × Option Bx)) : Lab :=
  ⟨maskL (match touches o.op with
    | true => opndMens ρ o.op.operands.toList
    | false => []), maskL (Res.keys ups), maskL (match o.dst with
    | some t => [t]
    | none => []), maskL (v.mens ++ upsMens ups)⟩
/-- The mask is gathered as a closed number: it names no variable of the walk. -/
def maskK {β : Type} : List Nat → Nat → (Nat → β) → β
  | [], acc, k => forceN acc k
  | b :: r, acc, k => maskK r (Nat.lor acc (Nat.shiftLeft 1 b)) k
def labK {β : Type} (o : Oper) (ρ : Operand → AV) (v : AV) (ups : List (Nat × Option Bx)) (k : Lab → β) : β :=
  maskK (match touches o.op with
    | true => opndMens ρ o.op.operands.toList
    | false => []) 0 fun a => maskK (Res.keys ups) 0 fun b => maskK (match o.dst with
    | some t => [t]
    | none => []) 0 fun c => maskK (v.mens ++ upsMens ups) 0 fun d => k ⟨a, b, c, d⟩
def noKill : List (Nat × Option Bx) → Bool
  | [] => true
  | (_, none) :: _ => false
  | (_, some _) :: r => noKill r
def memN (x : Nat) : List Nat → Bool
  | [] => false
  | y :: ys => match Nat.beq x y with
    | true => true
    | false => memN x ys
def disjM (a b : Nat) : Bool := Nat.beq (Nat.land a b) 0
def okPair (a b : Lab) : Bool := match disjM a.wr b.rd, disjM b.wr a.rd, disjM a.wr b.wr with
  | true, true, true => match disjM a.cr b.mt, disjM b.cr a.mt with
    | true, true => true
    | _, _ => false
  | _, _, _ => false
/-- The temporaries that an operation looks at (its guard's too). -/
def looksL (all : List Oper) (o : Oper) : List Nat := tmpsOf o.op.operands.toList ++ (match o.guard with
  | some (j, _) => (match dstOf all j with
    | some t => [t]
    | none => [])
  | none => [])
where
  tmpsOf : List Operand → List Nat
    | [] => []
    | .tmp t :: r => t :: tmpsOf r
    | _ :: r => tmpsOf r
def apartL (all : List Oper) (x y : Oper) : Bool :=
  (match x.dst with
  | some d => (match memN d (looksL all y), y.dst with
    | false, some d' => (match Nat.beq d d' with
      | true => false
      | false => true)
    | false, none => true
    | true, _ => false)
  | none => true) &&
  (match y.dst with
  | some d => (match memN d (looksL all x) with
    | true => false
    | false => true)
  | none => true)
/-- What must come before: each operation's own edges and those behind them. -/
def onsOf : List Edge → List Nat
  | [] => []
  | e :: r => match Region.binds .any e with
    | true => e.on :: onsOf r
    | false => onsOf r
def getM (cl : List (Nat × Nat)) (j : Nat) : Nat := match lk cl j with
  | some m => m
  | none => 0
def onsM (cl : List (Nat × Nat)) : List Nat → Nat
  | [] => 0
  | j :: r => Nat.lor (Nat.lor (Nat.shiftLeft 1 j) (getM cl j)) (onsM cl r)
def reachK {β : Type} : Nat → List Oper → List (Nat × Nat) → (List (Nat × Nat) → β) → β
  | _, [], cl, k => k cl
  | i, o :: r, cl, k => forceN (onsM cl (onsOf o.after.toList)) fun m => reachK (i + 1) r ((i, m) :: cl) k
/-- All edges lead back. -/
def backL : Nat → List Oper → Bool
  | _, [] => true
  | i, o :: r => (onsOf o.after.toList).all (fun j => Nat.ble (j + 1) i) && backL (i + 1) r
/-- An operation against those before it, whose labels are known. -/
def okAgainst (all : List Oper) (o : Oper) (l : Lab) (m : Nat) : List (Nat × Oper × Lab) → Bool
  | [] => true
  | (j, p, lj) :: r => match bitM m j with
    | true => okAgainst all o l m r
    | false => match okPair lj l, apartL all p o with
      | true, true => okAgainst all o l m r
      | _, _ => false
/-- A region that draws its order: walked once, in the order of the text; what may come in another order does not touch. -/
def stepsD (P : Program) (S : Tys) (N : Nat) (all : List Oper) (cl : List (Nat × Nat)) (idx : Nat) (l : List Oper) : St → List (Nat × Oper × Lab) → (St → Prop) → Prop :=
  @List.rec Oper (fun _ => Nat → St → List (Nat × Oper × Lab) → (St → Prop) → Prop) (fun _ σ _ K => K σ)
    (fun o _ ih idx σ pv K => match wantedA all o σ with
      | .go => actU P N o.dst σ (fun v ups σ' => match noKill ups with
          | true => labK o σ.ev v ups fun l => match okAgainst all o l (getM cl idx) pv with
            | true => gsp (isG idx all) N o.dst σ' fun σ'' => ih (idx + 1) σ'' ((idx, o, l) :: pv) K
            | false => False
          | false => False) (eff S o σ.ev (lk σ.bx))
      | .skip => match okAgainst all o ⟨0, 0, 0, 0⟩ (getM cl idx) pv with
        | true => putK N o.dst σ .undef fun σ' => ih (idx + 1) σ' ((idx, o, ⟨0, 0, 0, 0⟩) :: pv) K
        | false => False
      | .stop => False) l idx
theorem stepsD_cons {P : Program} {S : Tys} {N : Nat} {all : List Oper} {cl : List (Nat × Nat)} {idx : Nat} {o : Oper} {r : List Oper} {σ : St} {pv : List (Nat × Oper × Lab)} {K : St → Prop} : stepsD P S N all cl idx (o :: r) σ pv K = match wantedA all o σ with
    | .go => actU P N o.dst σ (fun v ups σ' => match noKill ups with
        | true => labK o σ.ev v ups fun l => match okAgainst all o l (getM cl idx) pv with
          | true => gsp (isG idx all) N o.dst σ' fun σ'' => stepsD P S N all cl (idx + 1) r σ'' ((idx, o, l) :: pv) K
          | false => False
        | false => False) (eff S o σ.ev (lk σ.bx))
    | .skip => match okAgainst all o ⟨0, 0, 0, 0⟩ (getM cl idx) pv with
      | true => putK N o.dst σ .undef fun σ' => stepsD P S N all cl (idx + 1) r σ' ((idx, o, ⟨0, 0, 0, 0⟩) :: pv) K
      | false => False
    | .stop => False := rfl
def regD (P : Program) (S : Tys) (N : Nat) (all : List Oper) (σ : St) (K : St → Prop) : Prop := match backL 0 all with
  | true => reachK 0 all [] fun cl => stepsD P S N all cl 0 all σ [] K
  | false => False

inductive Ex where
  | normal
  | exit (id : Nat)
  | ret

/-- 'τ' forgets some of what 'σ' knows; 'f' gives σ's name for each of τ's boxes ('none': a slice that is still nil). -/
def leA (f : Nat → Option Nat) (u : AV) : AV → Prop
  | .d x => u = .d x
  | .ptr b off => match f b with
    | some b' => u = .ptr b' off
    | none => False
  | .own b sz n => match f b with
    | some b' => u = .own b' sz n
    | none => (∃ s, u = .nil s) ∧ n = 0
  | .nil sz => u = .nil sz
  | .junk => True
  | _ => False
def leL (f : Nat → Option Nat) : List AV → List AV → Prop
  | [], [] => True
  | u :: us, v :: vs => leA f u v ∧ leL f us vs
  | _, _ => False
def leX (f : Nat → Option Nat) (u : Option Bx) (b : Nat) : Bx → Prop
  | .var cs fz => f b ≠ none ∧ match u with
    | some (.var cs' fz') => leL f cs' cs ∧ (fz' = true → fz = true)
    | _ => False
  | .row et sz es fz => match f b with
    | none => es = []
    | some _ => match u with
      | some (.row et' sz' es' fz') => et' = et ∧ sz' = sz ∧ es' = es ∧ fz' = fz
      | _ => False
def leT (f : Nat → Option Nat) (σ : St) : List (Nat × AV) → Prop
  | [] => True
  | (t, v) :: r => leA f (σ.get t) v ∧ leT f σ r
def leB (f : Nat → Option Nat) (σ : St) : List (Nat × Bx) → Prop
  | [] => True
  | (b, x) :: r => leX f (match f b with | some b' => lk σ.bx b' | none => none) b x ∧ leB f σ r
def okAll (bx : List (Nat × Bx)) : List (Nat × AV) → Bool
  | [] => true
  | (_, v) :: r => match v.okIn bx with
    | true => okAll bx r
    | false => false
def okAllB (bx : List (Nat × Bx)) : List (Nat × Bx) → Bool
  | [] => true
  | (_, x) :: r => match x.okIn bx with
    | true => okAllB bx r
    | false => false
/-- Names: τ's to σ's, as a list; a name that is not in it stands for itself. -/
def rnF (rn : List (Nat × Option Nat)) (b : Nat) : Option Nat := match lk rn b with
  | some x => x
  | none => some b
def okRn (rn : List (Nat × Option Nat)) : List (Nat × Bx) → List Nat → Bool
  | [], _ => true
  | (b, _) :: r, seen => match rnF rn b with
    | none => okRn rn r seen
    | some b' => match seen.contains b' with
      | true => false
      | false => okRn rn r (b' :: seen)
structure Le (σ τ : St) (rn : List (Nat × Option Nat)) : Prop where
  hT : leT (rnF rn) σ τ.T
  hB : leB (rnF rn) σ τ.bx
  hok : (okAll τ.bx τ.T && okAllB τ.bx τ.bx && okRn rn τ.bx []) = true

/-- The next round may begin. -/
inductive Again {ι : Type} (I : ι → Prop) (Sk : ι → St) (less : ι → Prop) (σ : St) : Prop
  | mk (i' : ι) (rn : List (Nat × Option Nat)) (hi : I i') (hm : less i') (hl : Le σ (Sk i') rn)
inductive LoopK (W : (Ex → St → Prop) → St → Prop) (K : Ex → St → Prop) (σ : St) (m : Nat) : Prop
  | mk {ι : Type} (I : ι → Prop) (Sk : ι → St) (μ : ι → Nat) (i0 : ι) (rn0 : List (Nat × Option Nat)) (hi0 : I i0) (h0 : Le σ (Sk i0) rn0)
      (round : ∀ i, I i → W (fun e σ' => match e with
        | .normal => Again I Sk (fun i' => μ i' < μ i) σ'
        | e => K e σ') (Sk i))

/-- The temporaries that a body writes, as a mask. -/
def dstL : List Oper → Nat → Nat
  | [], m => m
  | o :: r, m => match o.dst with
    | some t => forceN (Nat.lor m (Nat.shiftLeft 1 t)) fun m' => dstL r m'
    | none => dstL r m
noncomputable def dstM (c : Code) : Nat :=
  @Code.rec (fun _ => Nat) 0 (fun _ ops _ => dstL ops.toList 0) (fun _ _ a b => Nat.lor a b) (fun _ _ _ a b => Nat.lor a b) (fun _ _ a => a) (fun _ a => a)
    (fun _ _ _ _ a b => Nat.lor a b) (fun _ => 0) (fun _ a => a) (fun _ => 0) (fun _ => 0) 0 (fun _ => 0) c

def awp (P : Program) (S : Tys) (N : Nat) (c : Code) : (Ex → St → Prop) → St → Prop :=
  @Code.rec (fun _ => (Ex → St → Prop) → St → Prop) (fun K σ => K .normal σ)
    (fun _ ops draw K σ => match draw with
      | false => steps P S N ops.toList 0 ops.toList σ (K .normal)
      | true => regD P S N ops.toList σ (K .normal))
    (fun _ _ iha ihb K σ => iha (fun e σ' => match e with
      | .normal => ihb K σ'
      | .exit i => K (.exit i) σ'
      | .ret => K .ret σ') σ)
    (fun c _ _ iha ihb K σ => match σ.ev c with
      | .d (.bool t) => Split t (iha K σ) (ihb K σ)
      | _ => False)
    (fun id _ ih K σ => ih (fun e σ' => match e with
      | .exit i => match Nat.beq i id with
        | true => K .normal σ'
        | false => K (.exit i) σ'
      | .normal => K .normal σ'
      | .ret => K .ret σ') σ)
    (fun body ih K σ => forceN (dstM body) fun m => LoopK (fun K' σ' => ih K' σ') K σ m)
    (fun _ _ _ _ _ _ _ _ => False)
    (fun i K σ => K (.exit i) σ)
    (fun _ _ _ _ => False) (fun _ _ _ => False) (fun _ _ _ => False)
    (fun K σ => K .ret σ)
    (fun _ _ _ => False)
    c
theorem awp_cond {P : Program} {S : Tys} {N : Nat} {c : Operand} {a b : Code} {K : Ex → St → Prop} {σ : St} : awp P S N (.cond c a b) K σ = match σ.ev c with
    | .d (.bool t) => Split t (awp P S N a K σ) (awp P S N b K σ)
    | _ => False := rfl
end Go.Vm
