/- Texts VmA VmB VmC, joined. -/
import Derived.Calls
import Derived.Orders
import Derived.Below
import Derived.Laws.Sem
import Derived.IntWalk
import Derived.Deep.MidRow
import Derived.Maps.AppendAt
import Derived.MapFrom
section
/- The domain of the evaluator: pure data D, abstract values AV, what they read as in a world. No program is named here. -/
namespace Go.Vm
open Go.RowKit (Below)
/-- Pure data: what a Go value holds, memory followed. Slices are lists of elements of 'sz' cells each. -/
inductive D where
  | int (k : IntKind) (n : Int)
  | bool (b : Bool)
  | str (s : ByteArray)
  | sl (sz : Nat) (es : List D)
  | agg (cs : List D)
  | tup (cs : List D)
  | ref (cs : List D) (off : Nat)
  | fn (f : FuncId) (caps : List D)
  deriving Inhabited

def D.cells : D → List D
  | .agg cs => cs
  | x => [x]
def D.one : D → Bool
  | .agg _ => false
  | .tup _ => false
  | _ => true
def D.flat : D → Bool
  | .agg cs => cs.all D.one
  | .tup _ => false
  | _ => true

/-- Cells that nobody writes any more. -/
abbrev Sta := Nat → Nat → Prop

/-- 'v' reads as 'x' in w; all memory that is followed lies in A. -/
inductive Rep (w : World) (A : Sta) : D → Value → Prop
  | int (k : IntKind) (n : Int) : Rep w A (.int k n) (.int k n)
  | bool (b : Bool) : Rep w A (.bool b) (.bool b)
  | str (s : ByteArray) : Rep w A (.str s) (.string s)
  | slnil (sz : Nat) (a : Option Addr) (cap : Nat) : Rep w A (.sl sz []) (.slice a 0 cap)
  | sl {sz : Nat} {es : List D} {cap : Nat} (g o : Nat) (u : Nat → Nat → Value) (hcap : es.length ≤ cap)
      (hsz : ∀ (i : Nat) e, es[i]? = some e → e.cells.length = sz ∧ e.flat = true)
      (hc : ∀ (i : Nat) e (j : Nat) c, es[i]? = some e → e.cells[j]? = some c → A g (o + i * sz + j) ∧ w.cell? ⟨g, o + i * sz + j, none⟩ = some (u i j))
      (hr : ∀ (i : Nat) e (j : Nat) c, es[i]? = some e → e.cells[j]? = some c → Rep w A c (u i j)) :
      Rep w A (.sl sz es) (.slice (some ⟨g, o, none⟩) es.length cap)
  | agg {cs : List D} {vs : Array Value} (hl : cs.length = vs.size) (h1 : ∀ c ∈ cs, c.one = true)
      (hr : ∀ (j : Nat) c v, cs[j]? = some c → vs[j]? = some v → Rep w A c v) : Rep w A (.agg cs) (.agg vs)
  | tup {cs : List D} {vs : Array Value} (hl : cs.length = vs.size) (hr : ∀ (j : Nat) c v, cs[j]? = some c → vs[j]? = some v → Rep w A c v) :
      Rep w A (.tup cs) (.tuple vs)
  | ref {cs : List D} {off : Nat} (g o : Nat) (u : Nat → Value) (h1 : ∀ c ∈ cs, c.one = true)
      (hc : ∀ (j : Nat) c, cs[j]? = some c → A g (o + j) ∧ w.cell? ⟨g, o + j, none⟩ = some (u j))
      (hr : ∀ (j : Nat) c, cs[j]? = some c → Rep w A c (u j)) : Rep w A (.ref cs off) (.pointer (some ⟨g, o + off, none⟩))
  | fn {f : FuncId} {caps : List D} {vs : Array Value} (hl : caps.length = vs.size)
      (hr : ∀ (j : Nat) c v, caps[j]? = some c → vs[j]? = some v → Rep w A c v) : Rep w A (.fn f caps) (.func (.func f) #[] vs)

theorem Rep.frame {w w' : World} {A A' : Sta} (hA : ∀ g o, A g o → A' g o) (hw : ∀ g o, A g o → w'.cell? ⟨g, o, none⟩ = w.cell? ⟨g, o, none⟩)
    {x : D} {v : Value} (h : Rep w A x v) : Rep w' A' x v := by
  induction h with
  | int k n => exact .int k n
  | bool b => exact .bool b
  | str s => exact .str s
  | slnil sz a cap => exact .slnil sz a cap
  | sl g o u hcap hsz hc hr ih =>
    exact .sl g o u hcap hsz (fun i e j c h1 h2 => by
      obtain ⟨a1, a2⟩ := hc i e j c h1 h2
      exact ⟨hA _ _ a1, (hw _ _ a1).trans a2⟩) ih
  | agg hl h1 hr ih => exact .agg hl h1 ih
  | tup hl hr ih => exact .tup hl ih
  | ref g o u h1 hc hr ih =>
    exact .ref g o u h1 (fun j c h2 => by
      obtain ⟨a1, a2⟩ := hc j c h2
      exact ⟨hA _ _ a1, (hw _ _ a1).trans a2⟩) ih
  | fn hl hr ih => exact .fn hl ih

abbrev oneV (v : Value) : Bool := v.oneCell'
theorem Rep.oneV {w : World} {A : Sta} {x : D} {v : Value} (h : Rep w A x v) (h1 : x.one = true) : oneV v = true := by
  cases h <;> first | rfl | cases h1
/-- The cells of a value that reads as x read as x's cells. -/
theorem Rep.cells {w : World} {A : Sta} {x : D} {v : Value} (h : Rep w A x v) (ht : x.flat = true) :
    x.cells.length = v.cells.size ∧ (∀ c ∈ x.cells, c.one = true) ∧ ∀ (j : Nat) c u, x.cells[j]? = some c → v.cells[j]? = some u → Rep w A c u := by
  cases h with
  | agg hl h1 hr => exact ⟨hl, h1, hr⟩
  | tup hl hr => cases ht
  | _ =>
    refine ⟨rfl, ?_, ?_⟩
    · intro c hc
      simp only [D.cells, List.mem_singleton] at hc
      subst hc; rfl
    · intro j c u hc hu
      simp only [D.cells, Value.cells] at hc hu
      cases j with
      | zero =>
        simp only [List.getElem?_cons_zero, Option.some.injEq] at hc
        simp only [List.getElem?_toArray, List.getElem?_cons_zero, Option.some.injEq] at hu
        subst hc; subst hu; constructor <;> assumption
      | succ j => simp at hc

/-- What a closure has captured: a variable of the call's own, or data. -/
inductive Cap where
  | box (b : Nat)
  | dat (x : D)
  deriving Inhabited
def capMen (b : Nat) : List Cap → Bool
  | [] => false
  | c :: r => match c with
    | .box b' => match Nat.beq b b' with
      | true => true
      | false => capMen b r
    | .dat _ => capMen b r
theorem capMen_of_mem {b : Nat} : ∀ {cs : List Cap}, Cap.box b ∈ cs → capMen b cs = true
  | c :: r, h => by
    cases c with
    | box b' =>
      simp only [capMen]
      cases h with
      | head => rw [Nat.beq_refl]
      | tail _ h =>
        cases Nat.beq b b' with
        | true => rfl
        | false => exact capMen_of_mem h
    | dat x =>
      simp only [capMen]
      cases h with
      | tail _ h => exact capMen_of_mem h
/-- Abstract values: pure data, or what points into the call's own memory ('boxes', named by numbers). 'sub': an inner slice of a matrix (its version, its place); 'mptr': into one. 'mp': a map. 'view': a part of a slice that the call owns (elements lo to hi). -/
inductive AV where
  | d (x : D)
  | agg (cs : List AV)
  | tup (cs : List AV)
  | ptr (b : Nat) (off : Nat)
  | eptr (b : Nat) (sz : Nat) (i : Nat) (off : Nat)
  | own (b : Nat) (sz : Nat) (n : Nat)
  | fnv (f : FuncId) (caps : List Cap)
  | sptr (b : Nat) (sz : Nat) (i : Nat) (j : Nat)
  | sub (b : Nat) (v : Nat) (i : Nat)
  | mptr (b : Nat) (v : Nat) (i : Nat) (j : Nat)
  | mp (b : Nat)
  | view (b sz lo hi : Nat)
  | nil (sz : Nat)
  | undef
  | junk
  deriving Inhabited

def AV.men1 (b : Nat) : AV → Bool
  | .ptr b' _ => Nat.beq b b'
  | .eptr b' _ _ _ => Nat.beq b b'
  | .own b' _ _ => Nat.beq b b'
  | .fnv _ cs => capMen b cs
  | .sptr b' _ _ _ => Nat.beq b b'
  | .sub b' _ _ => Nat.beq b b'
  | .mptr b' _ _ _ => Nat.beq b b'
  | .mp b' => Nat.beq b b'
  | .view b' _ _ _ => Nat.beq b b'
  | .agg _ => true
  | .tup _ => true
  | .d _ => false
  | .nil _ => false
  | .undef => false
  | .junk => false
def AV.menL (b : Nat) : List AV → Bool
  | [] => false
  | c :: cs => match c.men1 b with
    | true => true
    | false => menL b cs
def AV.men2 (b : Nat) : AV → Bool
  | .agg cs => AV.menL b cs
  | .tup _ => true
  | .d _ => false
  | .ptr b' _ => Nat.beq b b'
  | .eptr b' _ _ _ => Nat.beq b b'
  | .own b' _ _ => Nat.beq b b'
  | .fnv _ cs => capMen b cs
  | .sptr b' _ _ _ => Nat.beq b b'
  | .sub b' _ _ => Nat.beq b b'
  | .mptr b' _ _ _ => Nat.beq b b'
  | .mp b' => Nat.beq b b'
  | .view b' _ _ _ => Nat.beq b b'
  | .nil _ => false
  | .undef => false
  | .junk => false
def AV.menT (b : Nat) : List AV → Bool
  | [] => false
  | c :: cs => match c.men2 b with
    | true => true
    | false => menT b cs
def AV.men (b : Nat) : AV → Bool
  | .agg cs => AV.menL b cs
  | .tup cs => AV.menT b cs
  | .d _ => false
  | .ptr b' _ => Nat.beq b b'
  | .eptr b' _ _ _ => Nat.beq b b'
  | .own b' _ _ => Nat.beq b b'
  | .fnv _ cs => capMen b cs
  | .sptr b' _ _ _ => Nat.beq b b'
  | .sub b' _ _ => Nat.beq b b'
  | .mptr b' _ _ _ => Nat.beq b b'
  | .mp b' => Nat.beq b b'
  | .view b' _ _ _ => Nat.beq b b'
  | .nil _ => false
  | .undef => false
  | .junk => false
def AV.one : AV → Bool
  | .agg _ => false
  | .tup _ => false
  | .undef => false
  | .junk => false
  | .d x => x.one
  | _ => true
def AV.solid : AV → Bool
  | .undef => false
  | .junk => false
  | _ => true

theorem menL_of_mem {b : Nat} {c : AV} : ∀ {cs : List AV}, c ∈ cs → c.men1 b = true → AV.menL b cs = true
  | c' :: cs, h, hb => by
    simp only [AV.menL]
    cases h with
    | head => rw [hb]
    | tail _ h =>
      cases c'.men1 b with
      | true => rfl
      | false => exact menL_of_mem h hb
theorem menT_of_mem {b : Nat} {c : AV} : ∀ {cs : List AV}, c ∈ cs → c.men2 b = true → AV.menT b cs = true
  | c' :: cs, h, hb => by
    simp only [AV.menT]
    cases h with
    | head => rw [hb]
    | tail _ h =>
      cases c'.men2 b with
      | true => rfl
      | false => exact menT_of_mem h hb
/-- Where the boxes lie: the block of each; the header of each slice that the call owns; the headers of the inner slices of a matrix, in each of its versions, and its last version. -/
structure Lay where
  ι : Nat → Nat
  hd : Nat → Value
  sub : Nat → Nat → Nat → Value
  top : Nat → Nat
/-- A box lies as it did. -/
structure Lay.eqAt (L' L : Lay) (b : Nat) : Prop where
  ι : L'.ι b = L.ι b
  hd : L'.hd b = L.hd b
  top : L.top b ≤ L'.top b
  sub : ∀ v, v ≤ L.top b → ∀ i, L'.sub b v i = L.sub b v i
theorem Lay.eqAt.rfl' {L : Lay} {b : Nat} : L.eqAt L b := ⟨rfl, rfl, Nat.le_refl _, fun _ _ _ => rfl⟩
theorem Lay.eqAt.trans {L L' L'' : Lay} {b : Nat} (h : L''.eqAt L' b) (h' : L'.eqAt L b) : L''.eqAt L b :=
  ⟨h.ι.trans h'.ι, h.hd.trans h'.hd, Nat.le_trans h'.top h.top, fun v hv i => (h.sub v (Nat.le_trans hv h'.top) i).trans (h'.sub v hv i)⟩

def CapV (L : Lay) (w : World) (A : Sta) : Cap → Value → Prop
  | .box b, v => v = .pointer (some ⟨L.ι b, 0, none⟩)
  | .dat x, v => Rep w A x v
inductive RV (L : Lay) (w : World) (A : Sta) : AV → Value → Prop
  | d {x : D} {v : Value} (h : Rep w A x v) : RV L w A (.d x) v
  | agg {cs : List AV} {vs : Array Value} (hl : cs.length = vs.size) (h1 : ∀ c ∈ cs, c.one = true)
      (hr : ∀ (j : Nat) c v, cs[j]? = some c → vs[j]? = some v → RV L w A c v) : RV L w A (.agg cs) (.agg vs)
  | tup {cs : List AV} {vs : Array Value} (hl : cs.length = vs.size)
      (hr : ∀ (j : Nat) c v, cs[j]? = some c → vs[j]? = some v → RV L w A c v) : RV L w A (.tup cs) (.tuple vs)
  | ptr (b off : Nat) : RV L w A (.ptr b off) (.pointer (some ⟨L.ι b, off, none⟩))
  | eptr (b sz i off : Nat) : RV L w A (.eptr b sz i off) (.pointer (some ⟨L.ι b, i * sz + off, none⟩))
  | own (b sz n : Nat) (h1 : Vm.oneV (L.hd b) = true) : RV L w A (.own b sz n) (L.hd b)
  | fnv {f : FuncId} {caps : List Cap} {vs : Array Value} (hl : caps.length = vs.size) (hr : ∀ (j : Nat) c v, caps[j]? = some c → vs[j]? = some v → CapV L w A c v) :
      RV L w A (.fnv f caps) (.func (.func f) #[] vs)
  | sptr (b sz i j : Nat) : RV L w A (.sptr b sz i j) (.pointer (some ⟨L.ι b, i * sz + j, none⟩))
  | sub (b v i : Nat) (h1 : Vm.oneV (L.sub b v i) = true) (hv : v ≤ L.top b) : RV L w A (.sub b v i) (L.sub b v i)
  | mptr (b v i j g : Nat) (hg : (L.sub b v i).ownBlock = some g) (hv : v ≤ L.top b) : RV L w A (.mptr b v i j) (.pointer (some ⟨g, j, none⟩))
  | mp (b : Nat) : RV L w A (.mp b) (.map (some (L.ι b)))
  | view (b sz lo hi g n C : Nat) (hh : L.hd b = .slice (some ⟨g, 0, none⟩) n C) (hb : lo < hi ∧ hi ≤ n ∧ n ≤ C) : RV L w A (.view b sz lo hi) (.slice (some ⟨g, lo * sz, none⟩) (hi - lo) (C - lo))
  | nil (sz : Nat) : RV L w A (.nil sz) (.slice none 0 0)
  | undef : RV L w A .undef Go.undef
  | junk (v : Value) : RV L w A .junk v

theorem RV.frame {L L' : Lay} {w w' : World} {A A' : Sta} (hA : ∀ g o, A g o → A' g o) (hw : ∀ g o, A g o → w'.cell? ⟨g, o, none⟩ = w.cell? ⟨g, o, none⟩)
    {x : AV} {v : Value} (h : RV L w A x v) : (∀ b, x.men1 b = true → L'.eqAt L b) → RV L' w' A' x v := by
  induction h with
  | d h => exact fun _ => .d (h.frame hA hw)
  | agg hl h1 hr ih =>
    intro hL
    exact .agg hl h1 fun j c v hc hv => ih j c v hc hv fun b _ => hL b rfl
  | tup hl hr ih =>
    intro hL
    exact .tup hl fun j c v hc hv => ih j c v hc hv fun b _ => hL b rfl
  | ptr b off => intro hL; have := (hL b (Nat.beq_refl b)).ι; rw [← this]; exact .ptr b off
  | eptr b sz i off => intro hL; have := (hL b (Nat.beq_refl b)).ι; rw [← this]; exact .eptr b sz i off
  | own b sz n h1 => intro hL; have := (hL b (Nat.beq_refl b)).hd; rw [← this]; exact .own b sz n (by rw [this]; exact h1)
  | fnv hl hr =>
    intro hL
    refine .fnv hl fun j c v hc hv => ?_
    have h1 := hr j c v hc hv
    cases c with
    | box b =>
      have := (hL b (capMen_of_mem (List.mem_of_getElem? hc))).ι
      simp only [CapV] at h1 ⊢
      rw [this]; exact h1
    | dat x => exact Rep.frame hA hw h1
  | sptr b sz i j => intro hL; have := (hL b (Nat.beq_refl b)).ι; rw [← this]; exact .sptr b sz i j
  | sub b v i h1 hv =>
    intro hL
    have hb := hL b (Nat.beq_refl b)
    have := hb.sub v hv i
    rw [← this]; exact .sub b v i (by rw [this]; exact h1) (Nat.le_trans hv hb.top)
  | mptr b v i j g hg hv =>
    intro hL
    have hb := hL b (Nat.beq_refl b)
    exact .mptr b v i j g (by rw [hb.sub v hv i]; exact hg) (Nat.le_trans hv hb.top)
  | mp b => intro hL; have := (hL b (Nat.beq_refl b)).ι; rw [← this]; exact .mp b
  | view b sz lo hi g n C hh hb => intro hL; have := (hL b (Nat.beq_refl b)).hd; exact .view b sz lo hi g n C (by rw [this]; exact hh) hb
  | nil sz => exact fun _ => .nil sz
  | undef => exact fun _ => .undef
  | junk v => exact fun _ => .junk v
/-- The same with the layout kept where the value itself mentions a box. -/
theorem RV.frame2 {L L' : Lay} {w w' : World} {A A' : Sta} (hA : ∀ g o, A g o → A' g o) (hw : ∀ g o, A g o → w'.cell? ⟨g, o, none⟩ = w.cell? ⟨g, o, none⟩)
    {x : AV} {v : Value} (h : RV L w A x v) (hL : ∀ b, x.men2 b = true → L'.eqAt L b) : RV L' w' A' x v := by
  cases h with
  | agg hl h1 hr =>
    refine .agg hl h1 fun j c v hc hv => (hr j c v hc hv).frame hA hw fun b hb => hL b ?_
    exact menL_of_mem (List.mem_of_getElem? hc) hb
  | tup hl hr => exact (RV.tup hl hr).frame hA hw fun b' _ => hL b' rfl
  | d h => exact .d (h.frame hA hw)
  | ptr b off => exact (RV.ptr b off).frame hA hw fun b' hb => hL b' hb
  | eptr b sz i off => exact (RV.eptr b sz i off).frame hA hw fun b' hb => hL b' hb
  | own b sz n h1 => exact (RV.own b sz n h1).frame hA hw fun b' hb => hL b' hb
  | fnv hl hr => exact (RV.fnv hl hr).frame hA hw fun b' hb => hL b' hb
  | sptr b sz i j => exact (RV.sptr b sz i j).frame hA hw fun b' hb => hL b' hb
  | sub b v i h1 hv => exact (RV.sub b v i h1 hv).frame hA hw fun b' hb => hL b' hb
  | mptr b v i j g hg hv => exact (RV.mptr b v i j g hg hv).frame hA hw fun b' hb => hL b' hb
  | mp b => exact (RV.mp b).frame hA hw fun b' hb => hL b' hb
  | view b sz lo hi g n C hh hb => exact (RV.view b sz lo hi g n C hh hb).frame hA hw fun b' hb => hL b' hb
  | nil sz => exact .nil sz
  | undef => exact .undef
  | junk v => exact .junk v
theorem RV.frame' {L L' : Lay} {w w' : World} {A A' : Sta} (hA : ∀ g o, A g o → A' g o) (hw : ∀ g o, A g o → w'.cell? ⟨g, o, none⟩ = w.cell? ⟨g, o, none⟩)
    {x : AV} {v : Value} (h : RV L w A x v) (hL : ∀ b, x.men b = true → L'.eqAt L b) : RV L' w' A' x v := by
  cases x with
  | tup cs =>
    cases h with
    | tup hl hr =>
      refine .tup hl fun j c v hc hv => (hr j c v hc hv).frame2 hA hw fun b hb => hL b ?_
      exact menT_of_mem (List.mem_of_getElem? hc) hb
  | _ => exact h.frame2 hA hw hL
theorem RV.oneV {L : Lay} {w : World} {A : Sta} {x : AV} {v : Value} (h : RV L w A x v) (h1 : x.one = true) : oneV v = true := by
  cases h with
  | d h => exact h.oneV h1
  | agg hl h1' hr => cases h1
  | tup hl hr => cases h1
  | ptr b off => rfl
  | eptr b sz i off => rfl
  | own b sz n h2 => exact h2
  | fnv hl hr => rfl
  | sptr b sz i j => rfl
  | sub b v i h2 hv => exact h2
  | mptr b v i j g hg hv => rfl
  | mp b => rfl
  | view b sz lo hi g n C hh hb => rfl
  | nil sz => rfl
  | undef => cases h1
  | junk v => cases h1

def AV.cells : AV → List AV
  | .agg cs => cs
  | .d (.agg cs) => cs.map .d
  | v => [v]
def AV.flat : AV → Bool
  | .d x => x.flat
  | _ => true
theorem RV.cells {L : Lay} {w : World} {A : Sta} {x : AV} {v : Value} (h : RV L w A x v) (hs : x.solid = true) (hv : ∀ vs, v ≠ .tuple vs) :
    x.cells.length = v.cells.size ∧ (∀ c ∈ x.cells, c.one = true) ∧ ∀ (j : Nat) c u, x.cells[j]? = some c → v.cells[j]? = some u → RV L w A c u := by
  have single : ∀ (y : AV) (u : Value), RV L w A y u → y.cells = [y] → u.cells = #[u] → y.one = true →
      y.cells.length = u.cells.size ∧ (∀ c ∈ y.cells, c.one = true) ∧ ∀ (j : Nat) c z, y.cells[j]? = some c → u.cells[j]? = some z → RV L w A c z := by
    intro y u hy h1 h2 h3
    rw [h1, h2]
    refine ⟨rfl, fun c hc => by rw [List.mem_singleton] at hc; rw [hc]; exact h3, fun j c z hc hz => ?_⟩
    cases j with
    | zero =>
      simp only [List.getElem?_cons_zero, Option.some.injEq] at hc
      simp only [List.getElem?_toArray, List.getElem?_cons_zero, Option.some.injEq] at hz
      subst hc; subst hz; exact hy
    | succ j => simp at hc
  cases h with
  | @d x v h =>
    cases h with
    | agg hl h1 hr =>
      refine ⟨by simp [AV.cells, Value.cells, hl], ?_, ?_⟩
      · intro c hc
        simp only [AV.cells, List.mem_map] at hc
        obtain ⟨y, hy, rfl⟩ := hc
        exact h1 y hy
      · intro j c u hc hu
        simp only [AV.cells, List.getElem?_map, Option.map_eq_some_iff] at hc
        obtain ⟨y, hy, rfl⟩ := hc
        exact .d (hr j y u hy hu)
    | tup hl hr => exact absurd rfl (hv _)
    | _ => refine single _ _ (.d (by constructor <;> assumption)) rfl rfl rfl
  | agg hl h1 hr => exact ⟨hl, h1, hr⟩
  | tup hl hr => exact absurd rfl (hv _)
  | ptr b off => exact single _ _ (.ptr b off) rfl rfl rfl
  | eptr b sz i off => exact single _ _ (.eptr b sz i off) rfl rfl rfl
  | own b sz n h1 =>
    refine single _ _ (.own b sz n h1) rfl ?_ rfl
    cases hh : L.hd b <;> first | rfl | (rw [hh] at h1; cases h1)
  | fnv hl hr => exact single _ _ (.fnv hl hr) rfl rfl rfl
  | sptr b sz i j => exact single _ _ (.sptr b sz i j) rfl rfl rfl
  | sub b v i h1 hv' =>
    refine single _ _ (.sub b v i h1 hv') rfl ?_ rfl
    cases hh : L.sub b v i <;> first | rfl | (rw [hh] at h1; cases h1)
  | mptr b v i j g hg hv' => exact single _ _ (.mptr b v i j g hg hv') rfl rfl rfl
  | mp b => exact single _ _ (.mp b) rfl rfl rfl
  | view b sz lo hi g n C hh hb => exact single _ _ (.view b sz lo hi g n C hh hb) rfl rfl rfl
  | nil sz => exact single _ _ (.nil sz) rfl rfl rfl
  | undef => cases hs
  | junk v => cases hs
end Go.Vm
end

section
/- The evaluator: one operation, one region, one body, on abstract states. It names no program; 'P' and the table of types are letters. -/
namespace Go.Vm
open Go.RowKit (Below)
/-- Memory of the call's own. 'var': a variable (its cells). 'row': the backing of a slice that the call owns (element type, cells an element, elements). 'arr': a big array of one-cell elements. 'mat': a slice of slices of one-cell elements, all of them the call's own ('none': a row whose header has gone stale); v: how often a header was stored. 'fz': nobody writes its present cells any more. 'gone': its blocks have another name now. -/
inductive Bx where
  | var (cs : List AV) (fz : Bool)
  | row (et sz : Nat) (es : List D) (fz : Bool)
  | arr (es : List D) (fz : Bool)
  | mat (et ie v : Nat) (rows : List (Option (List D)))
  | map (kt et : Nat) (kd : TypeDesc) (es : List (D × D))
  | iter (m : Option Nat) (n : Nat) (seen : List Nat)
  | gone
  deriving Inhabited

structure St where
  T : List (Nat × AV)
  bx : List (Nat × Bx)

def lk {α : Type} : List (Nat × α) → Nat → Option α
  | [], _ => none
  | (k, v) :: r, j => match Nat.beq k j with
    | true => some v
    | false => lk r j
/-- Set a key, the continuation last (so that the spine is made at once). -/
def stK {α β : Type} : List (Nat × α) → Nat → α → (List (Nat × α) → β) → β
  | [], j, v, k => k [(j, v)]
  | (i, u) :: r, j, v, k => match Nat.beq i j with
    | true => k ((i, v) :: r)
    | false => stK r j v fun r' => k ((i, u) :: r')

structure TI where
  und : TypeDesc
  size : Nat
  bytes : Nat
  zero : List AV

abbrev Tys := TypeId → Option TI

def isAggT : TypeDesc → Bool
  | .struct _ => true
  | .array _ _ => true
  | _ => false

def constA : Value → AV
  | .int k n => .d (.int k n)
  | .bool b => .d (.bool b)
  | .string s => .d (.str s)
  | .slice none 0 0 => .nil 0
  | _ => .junk

/-- An abstract value, made at once. -/
def forceK {β : Type} (v : AV) (k : AV → β) : β := match v with
  | .d x => k (.d x)
  | .agg cs => k (.agg cs)
  | .tup cs => k (.tup cs)
  | .ptr b off => k (.ptr b off)
  | .eptr b sz i off => k (.eptr b sz i off)
  | .own b sz n => k (.own b sz n)
  | .fnv f cs => k (.fnv f cs)
  | .sptr b sz i j => k (.sptr b sz i j)
  | .sub b v i => k (.sub b v i)
  | .mptr b v i j => k (.mptr b v i j)
  | .mp b => k (.mp b)
  | .view b sz lo hi => k (.view b sz lo hi)
  | .nil sz => k (.nil sz)
  | .undef => k .undef
  | .junk => k .junk
theorem forceK_eq {β : Type} (v : AV) (k : AV → β) : forceK v k = k v := by cases v <;> rfl

def St.get (σ : St) (t : Nat) : AV := match lk σ.T t with
  | some v => v
  | none => .junk
def evA (get : Nat → AV) : Operand → AV
  | .tmp t => get t
  | .const v => constA v
  | .func f => .d (.fn f [])
  | .global _ => .junk
def St.ev (σ : St) (x : Operand) : AV := evA σ.get x

/-- What one operation comes to. 'callX': a call that is handed boxes; 'alt': the walk may choose. -/
inductive Res where
  | ok (v : AV) (ups : List (Nat × Option Bx))
  | call (f : FuncId) (args : List D) (ups : List (Nat × Option Bx))
  | callX (t : Option Nat) (f : FuncId) (xs : List AV) (hs : List (Nat × Bx))
  | need (p : Prop) (r : Res)
  | pick (es : List D) (i : Nat) (k : D → Res)
  | pickR (rows : List (Option (List D))) (i : Nat) (k : List D → Res)
  | unM (rows : List (Option (List D))) (k : List (List D) → Res)
  | wr (ik : IntKind) (n : Int) (k : Int → Res)
  | alt (a b : Res)
  | look (es : List (D × D)) (k : D) (hit : D → Res) (miss : Res)
  | nilq (es : List D) (a b : Res)
  | nxt (es : List (D × D)) (seen : List Nat) (hit : Nat → D × D → Res) (miss : Res)
  | bad

/-- The boxes that a value mentions. -/
def capMens : List Cap → List Nat
  | [] => []
  | c :: r => match c with
    | .box b => b :: capMens r
    | .dat _ => capMens r
def AV.mens1 : AV → List Nat
  | .ptr b _ => [b]
  | .eptr b _ _ _ => [b]
  | .own b _ _ => [b]
  | .fnv _ cs => capMens cs
  | .sptr b _ _ _ => [b]
  | .sub b _ _ => [b]
  | .mptr b _ _ _ => [b]
  | .mp b => [b]
  | .view b _ _ _ => [b]
  | _ => []
def AV.mensL : List AV → List Nat
  | [] => []
  | c :: cs => match c.mens1 with
    | [] => mensL cs
    | b :: r => b :: (r ++ mensL cs)
def AV.mens2 : AV → List Nat
  | .agg cs => AV.mensL cs
  | .ptr b _ => [b]
  | .eptr b _ _ _ => [b]
  | .own b _ _ => [b]
  | .fnv _ cs => capMens cs
  | .sptr b _ _ _ => [b]
  | .sub b _ _ => [b]
  | .mptr b _ _ _ => [b]
  | .mp b => [b]
  | .view b _ _ _ => [b]
  | _ => []
def AV.mensT : List AV → List Nat
  | [] => []
  | c :: cs => match c.mens2 with
    | [] => mensT cs
    | b :: r => b :: (r ++ mensT cs)
def AV.mens : AV → List Nat
  | .agg cs => AV.mensL cs
  | .tup cs => AV.mensT cs
  | .ptr b _ => [b]
  | .eptr b _ _ _ => [b]
  | .own b _ _ => [b]
  | .fnv _ cs => capMens cs
  | .sptr b _ _ _ => [b]
  | .sub b _ _ => [b]
  | .mptr b _ _ _ => [b]
  | .mp b => [b]
  | .view b _ _ _ => [b]
  | _ => []
def Bx.mens : Bx → List Nat
  | .var cs _ => AV.mensL cs
  | .iter m _ _ => match m with
    | some b => [b]
    | none => []
  | _ => []
/-- The boxes that are handed over with some values. -/
def handL (B : Nat → Option Bx) : Nat → List Nat → List (Nat × Bx) → List (Nat × Bx)
  | 0, _, acc => acc
  | _ + 1, [], acc => acc
  | f + 1, b :: r, acc => match lk acc b with
    | some _ => handL B f r acc
    | none => match B b with
      | some x => handL B f (x.mens ++ r) ((b, x) :: acc)
      | none => handL B f r acc
def mensA : List AV → List Nat
  | [] => []
  | c :: cs => c.mens ++ mensA cs
def handed (B : Nat → Option Bx) (xs : List AV) : List (Nat × Bx) := handL B 200 (mensA xs) []

def allD : List AV → Option (List D)
  | [] => some []
  | c :: cs => match c with
    | .d x => match allD cs with
      | some xs => some (x :: xs)
      | none => none
    | _ => none
def oneL : List AV → Bool
  | [] => true
  | c :: cs => match c.one with
    | true => oneL cs
    | false => false
/-- A struct or array out of its cells. -/
def mkA (cs : List AV) : AV := match allD cs with
  | some ds => .d (.agg ds)
  | none => .agg cs
def subL {α : Type} : Nat → Nat → List α → Option (List α)
  | _, 0, _ => some []
  | 0, n + 1, c :: cs => match subL 0 n cs with
    | some r => some (c :: r)
    | none => none
  | off + 1, n + 1, _ :: cs => subL off (n + 1) cs
  | _, _ + 1, [] => none
/-- Cells from 'off' on, turned into others. -/
def setL {α : Type} : List α → Nat → List α → Option (List α)
  | cs, 0, [] => some cs
  | _ :: cs, 0, v :: vs => match setL cs 0 vs with
    | some r => some (v :: r)
    | none => none
  | c :: cs, off + 1, vs => match setL cs off vs with
    | some r => some (c :: r)
    | none => none
  | [], _, _ => none

def loadL (ti : TI) (cs : List AV) (off : Nat) : Res :=
  match isAggT ti.und with
  | false => match cs[off]? with
    | some v => match v.solid with
      | true => .ok v []
      | false => .bad
    | none => .bad
  | true => match subL off ti.size cs with
    | some l => match oneL l with
      | true => .ok (mkA l) []
      | false => .bad
    | none => .bad
def loadD (ti : TI) (cs : List D) (off : Nat) : Res :=
  match isAggT ti.und with
  | false => match cs[off]? with
    | some v => .ok (.d v) []
    | none => .bad
  | true => match off with
    | 0 => .need (cs.length = ti.size) (.ok (.d (.agg cs)) [])
    | off + 1 => match subL (off + 1) ti.size cs with
      | some l => .ok (.d (.agg l)) []
      | none => .bad

/-- 'nil' without a size gets that of its type. -/
def resz (S : Tys) (t : TypeId) (v : AV) : AV := match v with
  | .nil 0 => match S t with
    | some ti => match ti.und with
      | .slice e => match S e with
        | some te => .nil te.size
        | none => v
      | _ => v
    | none => v
  | _ => v

/-- Freeze what a closure has captured. -/
def frzCap (B : Nat → Option Bx) : List Cap → (List D → List (Nat × Option Bx) → Res) → Res
  | [], k => k [] []
  | c :: r, k => match c with
    | .dat x => frzCap B r fun xs us => k (x :: xs) us
    | .box b => match B b with
      | some (.var cs _) => match allD cs with
        | some ds => match ds.all D.one with
          | true => frzCap B r fun xs us => k (.ref ds 0 :: xs) ((b, some (.var cs true)) :: us)
          | false => .bad
        | none => .bad
      | some (.arr es _) => frzCap B r fun xs us => k (.ref es 0 :: xs) ((b, some (.arr es true)) :: us)
      | _ => .bad
def capL : List AV → Option (List Cap)
  | [] => some []
  | v :: vs => match capL vs with
    | some r => match v with
      | .ptr b 0 => some (.box b :: r)
      | .d x => some (.dat x :: r)
      | _ => none
    | none => none
def capAV : List Cap → List AV
  | [] => []
  | c :: r => match c with
    | .box b => .ptr b 0 :: capAV r
    | .dat x => .d x :: capAV r
/-- Freeze: an abstract value as pure data; the boxes that nobody may overwrite from now on. -/
def frzK (B : Nat → Option Bx) (v : AV) (k : D → List (Nat × Option Bx) → Res) : Res := match v with
  | .d x => k x []
  | .nil sz => k (.sl sz []) []
  | .own b _ _ => match B b with
    | some (.row et sz es _) => k (.sl sz es) [(b, some (.row et sz es true))]
    | some (.mat et _ _ rows) => .unM rows fun rs => k (.sl 1 (rs.map (.sl 1))) [(b, some (.row et 1 (rs.map (.sl 1)) true))]
    | _ => .bad
  | .fnv f cs => frzCap B cs fun ds us => k (.fn f ds) us
  | _ => .bad
def frzLK (B : Nat → Option Bx) : List AV → (List D → List (Nat × Option Bx) → Res) → Res
  | [], k => k [] []
  | v :: vs, k => frzK B v fun x u => frzLK B vs fun xs us => k (x :: xs) (u ++ us)
def frzAK (B : Nat → Option Bx) (v : AV) (k : D → List (Nat × Option Bx) → Res) : Res := match v with
  | .agg cs => frzLK B cs fun ds us => k (.agg ds) us
  | v => frzK B v k
def frzALK (B : Nat → Option Bx) : List AV → (List D → List (Nat × Option Bx) → Res) → Res
  | [], k => k [] []
  | v :: vs, k => frzAK B v fun x u => frzALK B vs fun xs us => k (x :: xs) (u ++ us)

def zipResz (S : Tys) : List AV → List TypeId → List AV
  | v :: vs, t :: ts => resz S t v :: zipResz S vs ts
  | _, _ => []

/-- '==' of two structs whose fields are numbers, bools and strings. -/
def eqvF (S : Tys) : List Field → Nat → List D → List D → Option Bool
  | [], _, [], [] => some true
  | ⟨_, ft, off, _, _, _, _⟩ :: fs, i, a :: as, b :: bs => match Nat.beq off i, S ft with
    | true, some ⟨und, _, _, _⟩ => match eqvF S fs (i + 1) as bs with
      | some r => match und, a, b with
        | .int _, .int k x, .int k' y => match decide (k = k') with
          | true => some ((x == y) && r)
          | false => none
        | .bool, .bool x, .bool y => some ((x == y) && r)
        | .string, .str x, .str y => some ((x.toList == y.toList) && r)
        | _, _, _ => none
      | none => none
    | _, _ => none
  | _, _, _, _ => none

/-- .. that may hold such structs, too. -/
def eqvG (S : Tys) : List Field → Nat → List D → List D → Option Bool
  | [], _, as, bs => match as, bs with
    | [], [] => some true
    | _, _ => none
  | ⟨_, ft, off, _, _, _, _⟩ :: fs, i, as, bs => match Nat.beq off i, S ft with
    | true, some ⟨und, size, _, _⟩ => match und with
      | .struct gs => match eqvF S gs.toList 0 (as.take size) (bs.take size), eqvG S fs (i + size) (as.drop size) (bs.drop size) with
        | some q, some r => some (q && r)
        | _, _ => none
      | und => match as, bs with
        | a :: as, b :: bs => match eqvG S fs (i + 1) as bs with
          | some r => match und, a, b with
            | .int _, .int k x, .int k' y => match decide (k = k') with
              | true => some ((x == y) && r)
              | false => none
            | .bool, .bool x, .bool y => some ((x == y) && r)
            | .string, .str x, .str y => some ((x.toList == y.toList) && r)
            | _, _, _ => none
          | none => none
        | _, _ => none
    | _, _ => none

def isShr : BinOp → Bool
  | .shr => true
  | _ => false
def shrZ (a b : Int) : Int := a / 2 ^ b.toNat
def effBin (op : BinOp) (x y : AV) : Res := match x, y with
  | .d (.int k a), .d (.int k' b) => match isShr op with
   | true => .need (0 ≤ b ∧ b ≤ (k.bits : Int)) (.ok (.d (.int k (shrZ a b))) [])
   | false => match decide (k = k') with
    | false => .bad
    | true => match op with
      | .add => .wr k (a + b) fun z => .ok (.d (.int k z)) []
      | .sub => .wr k (a - b) fun z => .ok (.d (.int k z)) []
      | .mul => .wr k (a * b) fun z => .ok (.d (.int k z)) []
      | .quo => .need (b ≠ 0) (.wr k (a.tdiv b) fun z => .ok (.d (.int k z)) [])
      | .rem => .need (b ≠ 0) (.ok (.d (.int k (a.tmod b))) [])
      | .eql => .ok (.d (.bool (a == b))) []
      | .neq => .ok (.d (.bool (a != b))) []
      | .lss => .ok (.d (.bool (decide (a < b)))) []
      | .leq => .ok (.d (.bool (decide (a ≤ b)))) []
      | .gtr => .ok (.d (.bool (decide (a > b)))) []
      | .geq => .ok (.d (.bool (decide (a ≥ b)))) []
      | _ => .bad
  | .d (.str a), .d (.str b) => match op with
    | .eql => .ok (.d (.bool (a.toList == b.toList))) []
    | .neq => .ok (.d (.bool (!(a.toList == b.toList)))) []
    | .add => .need (((a.size + b.size : Nat) : Int) ≤ 9223372036854775807) (.ok (.d (.str (a ++ b))) [])
    | _ => .bad
  | _, _ => .bad

def isBoolT (S : Tys) (t : TypeId) : Bool := match S t with
  | some ti => match ti.und with
    | .bool => true
    | _ => false
  | none => false
/-- .. of two arrays of numbers. -/
def eqvI : List D → List D → Option Bool
  | [], [] => some true
  | a :: as, b :: bs => match eqvI as bs with
    | some r => match a, b with
      | .int k x, .int k' y => match decide (k = k') with
        | true => some ((x == y) && r)
        | false => none
      | _, _ => none
    | none => none
  | _, _ => none
def eqvA (S : Tys) (t : TypeId) (a b : List D) : Option Bool := match S t with
  | some ti => match ti.und with
    | .struct fs => eqvG S fs.toList 0 a b
    | .array n e => match S e with
      | some te => match te.und, Nat.beq te.size 1, Nat.beq a.length n with
        | .int _, true, true => eqvI a b
        | _, _, _ => none
      | none => none
    | _ => none
  | none => none

def effEq (S : Tys) (t : TypeId) (neg : Bool) (x y : AV) : Res := match x, y with
  | .d (.bool a), .d (.bool b) => match isBoolT S t, neg with
    | true, false => .ok (.d (.bool (a == b))) []
    | true, true => .ok (.d (.bool (!(a == b)))) []
    | false, _ => .bad
  | .d (.agg a), .d (.agg b) => match eqvA S t a b, neg with
    | some r, false => .ok (.d (.bool r)) []
    | some r, true => .ok (.d (.bool (!r))) []
    | none, _ => .bad
  | _, _ => .bad

def effEq2 (S : Tys) (t : TypeId) (neg : Bool) (x y : AV) : Res := match x with
  | .d (.bool _) => effEq S t neg x y
  | .d (.agg _) => effEq S t neg x y
  | _ => match neg with
    | true => effBin .neq x y
    | false => effBin .eql x y

/-- '==' of a slice and nil. -/
def effNil (S : Tys) (t : TypeId) (neg : Bool) (x : AV) : Res := match S t with
  | some ti => match ti.und with
    | .slice _ => match x with
      | .d (.sl _ es) => .nilq es (.ok (.d (.bool (!neg))) []) (.ok (.d (.bool neg)) [])
      | .nil _ => .ok (.d (.bool (!neg))) []
      | _ => .bad
    | _ => .bad
  | none => .bad
def effEq3 (S : Tys) (t : TypeId) (neg : Bool) (x y : AV) : Res := match y with
  | .nil _ => effNil S t neg x
  | _ => effEq2 S t neg x y

def fieldOf (S : Tys) (t : TypeId) (f : Nat) : Option (Nat × TypeId × Nat) := match S t with
  | some ti => match ti.und with
    | .struct fs => match fs.toList[f]? with
      | some ⟨_, ft, fo, _, _, _, _⟩ => match S ft with
        | some ⟨_, size, _, _⟩ => match size with
          | 0 => none
          | n + 1 => some (fo, ft, n + 1)
        | none => none
      | none => none
    | _ => none
  | none => none

/-- 'l.map .d', made at once. -/
def mapD : List D → Option (List AV)
  | [] => some []
  | x :: xs => match mapD xs with
    | some r => some (.d x :: r)
    | none => none
theorem mapD_eq : ∀ l : List D, mapD l = some (l.map .d)
  | [] => rfl
  | x :: xs => by simp [mapD, mapD_eq xs]
/-- Cells of a part of a literal. -/
def partC (v : AV) : Option (List AV) := match v with
  | .d (.agg l) => mapD l
  | .d (.tup _) => none
  | .d x => some [.d x]
  | .agg l => some l
  | .ptr b o => some [.ptr b o]
  | .fnv f cs => some [.fnv f cs]
  | .own b s n => some [.own b s n]
  | .nil s => some [.nil s]
  | .mp b => some [.mp b]
  | _ => none
def fillL (S : Tys) (t : TypeId) (ρ : Operand → AV) : List AV → List (Nat × Operand) → Option (List AV)
  | cs, [] => some cs
  | cs, (i, x) :: ps => match fieldOf S t i with
    | some (off, ft, n) => match partC (resz S ft (ρ x)) with
      | some l => match Nat.beq l.length n with
        | true => match setL cs off l with
          | some cs' => fillL S t ρ cs' ps
          | none => none
        | false => none
      | none => none
    | none => none
/-- An array's literal: elements of one cell. -/
def fillArr (S : Tys) (e : TypeId) (ρ : Operand → AV) : List AV → List (Nat × Operand) → Option (List AV)
  | cs, [] => some cs
  | cs, (i, x) :: ps => match partC (resz S e (ρ x)) with
    | some [v] => match setL cs i [v] with
      | some cs' => fillArr S e ρ cs' ps
      | none => none
    | _ => none

/-- An element as pure data, out of its cells. -/
def elemD (agg : Bool) (cs : List D) : Option D := match agg with
  | true => some (.agg cs)
  | false => match cs with
    | [x] => match x.one with
      | true => some x
      | false => none
    | _ => none
def fillE (S : Tys) (B : Nat → Option Bx) (e : TypeId) (size : Nat) (ρ : Operand → AV) : List D → List (Nat × Operand) → List (Nat × Option Bx) → (List D → List (Nat × Option Bx) → Res) → Res
  | es, [], us, k => k es us
  | es, (i, x) :: ps, us, k => frzAK B (resz S e (ρ x)) fun d u => match Nat.ble size 40 with
    | true => match Nat.beq d.cells.length size, d.flat with
      | true, true => match setL es i [d] with
        | some es' => fillE S B e size ρ es' ps (us ++ u) k
        | none => .bad
      | _, _ => .bad
    | false => .need (d.cells.length = size ∧ d.flat = true) (match setL es i [d] with
      | some es' => fillE S B e size ρ es' ps (us ++ u) k
      | none => .bad)

def bAt (s : ByteArray) (i : Nat) : Int := match s.data.toList[i]? with
  | some b => (b.toNat : Int)
  | none => 0

/-- '[]byte(s)' as data. -/
def bytesD (s : ByteArray) : List D := s.data.toList.map fun b => .int .u8 (b.toNat : Int)
def isBytes (S : Tys) (s e : TypeId) : Bool := match S s, S e with
  | some a, some b => match a.und, b.und with
    | .string, .int .u8 => true
    | _, _ => false
  | _, _ => false

def loI : Option AV → (Int → Res) → Res
  | none, k => k 0
  | some (.d (.int _ n)), k => k n
  | _, _ => .bad
def hiI (len : Nat) : Option AV → (Int → Res) → Res
  | none, k => k (len : Int)
  | some (.d (.int _ n)), k => k n
  | _, _ => .bad

/-- The elements of an append's source. -/
def srcK (B : Nat → Option Bx) (sz : Nat) (v : AV) (k : List D → Res) : Res := match v with
  | .d (.sl sz' es) => match Nat.beq sz' sz with
    | true => k es
    | false => .bad
  | .nil _ => k []
  | .own b _ _ => match B b with
    | some (.row _ sz' es _) => match Nat.beq sz' sz with
      | true => k es
      | false => .bad
    | _ => .bad
  | .sub b v i => match B b with
    | some (.mat _ _ v' rows) => match Nat.beq sz 1 with
      | true => .need (v = v') (.pickR rows i fun es => k es)
      | false => .bad
    | _ => .bad
  | _ => .bad
/-- An old name goes; where the order is drawn, it stands for nothing from now on. -/
def kil (dr : Bool) (b : Nat) : Nat × Option Bx := (b, match dr with
  | true => some .gone
  | false => none)
def oldK (B : Nat → Option Bx) (dr : Bool) (e sz : Nat) (v : AV) (k : List D → Bool → List (Nat × Option Bx) → Res) : Res := match v with
  | .nil _ => k [] false []
  | .own b _ _ => match B b with
    | some (.row e' sz' es fz) => match Nat.beq e' e, Nat.beq sz' sz with
      | true, true => k es fz [kil dr b]
      | _, _ => .bad
    | _ => .bad
  | .sub b v i => match B b with
    | some (.mat et ie v' rows) => match Nat.beq ie e, Nat.beq sz 1 with
      | true, true => .need (v = v') (.pickR rows i fun es => k es false [(b, some (.mat et ie v (rows.set i none)))])
      | _, _ => .bad
    | _ => .bad
  | _ => .bad
/-- A part of a row that is appended to: the row. -/
def viewE (B : Nat → Option Bx) (e sz : Nat) (v : AV) : Option (Nat × Nat × Nat × List D × Bool) := match v with
  | .view b sz1 lo hi => match B b with
    | some (.row e' sz' es fz) => match Nat.beq e' e, Nat.beq sz' sz, Nat.beq sz1 sz with
      | true, true, true => some (b, lo, hi, es, fz)
      | _, _, _ => none
    | _ => none
  | _ => none
def allSome {α : Type} : List (Option α) → Option (List α)
  | [] => some []
  | x :: xs => match x, allSome xs with
    | some y, some ys => some (y :: ys)
    | _, _ => none
/-- A slice of the call's own that is a matrix: its box, the inner element type, its rows. -/
def srcM (B : Nat → Option Bx) (v : AV) : Option (Nat × Nat × Nat × List (Option (List D))) := match v with
  | .own b _ _ => match B b with
    | some (.mat et ie _ rows) => some (b, et, ie, rows)
    | _ => none
  | _ => none
def oldM (B : Nat → Option Bx) (dr : Bool) (c et ie : Nat) (v : AV) : Option (List (Option (List D)) × List (Nat × Option Bx)) := match v with
  | .nil _ => some ([], [])
  | .own b _ _ => match B b with
    | some (.mat et' ie' _ rows) => match Nat.beq et et', Nat.beq ie ie', Nat.beq b c with
      | true, true, false => some (rows, [kil dr b])
      | _, _, _ => none
    | _ => none
  | _ => none
/-- Where a pointer to a header in a matrix points. -/
def matAt (B : Nat → Option Bx) (p : AV) : Option (Nat × Nat × Nat × Nat × List (Option (List D)) × Nat) := match p with
  | .eptr b sz i off => match sz, off with
    | 1, 0 => match B b with
      | some (.mat et ie v rows) => some (b, et, ie, v, rows, i)
      | _ => none
    | _, _ => none
  | _ => none
/-- An inner row that the call owns, out of a literal with one element. -/
def fillM (B : Nat → Option Bx) (dr : Bool) (ie : Nat) (ρ : Operand → AV) (n : Nat) (ps : List (Nat × Operand)) : Option (List D × List (Nat × Option Bx)) := match n, ps with
  | 1, [(0, x)] => match ρ x with
    | .own c _ _ => match B c with
      | some (.row ie' 1 es false) => match Nat.beq ie' ie with
        | true => some (es, [kil dr c])
        | false => none
      | _ => none
    | .nil _ => some ([], [])
    | _ => none
  | _, _ => none

def minI (a b : Int) : Int := if b < a then b else a
def maxI (a b : Int) : Int := if a < b then b else a
def foldI (f : Int → Int → Int) : Int → List AV → Option Int
  | a, [] => some a
  | a, v :: vs => match v with
    | .d (.int .i64 b) => foldI f (f a b) vs
    | _ => none

/-- A big array of one-cell elements: its length, its element's zero. -/
def bigTI (ti : TI) : Option (Nat × D) := match ti.und with
  | .array n _ => match Nat.ble n 40 with
    | true => none
    | false => match ti.zero with
      | .d z :: _ => match z.one with
        | true => some (n, z)
        | false => none
      | _ => none
  | _ => none
def bigO (S : Tys) (T : TypeId) : Option Nat := match S T with
  | some ti => match bigTI ti with
    | some (n, _) => some n
    | none => none
  | none => none
def frzZL : List AV → Option (List D)
  | [] => some []
  | c :: cs => match frzZL cs with
    | some ds => match c with
      | .d x => some (x :: ds)
      | .nil sz => some (.sl sz [] :: ds)
      | _ => none
    | none => none
/-- A type's zero as data; it is flat. -/
def zeroFl (te : TI) : Option D := match bigTI te with
  | some _ => none
  | none => match frzZL te.zero with
    | some ds => match elemD (isAggT te.und) ds with
      | some z => match z.flat with
        | true => some z
        | false => none
      | none => none
    | none => none
/-- Two keys of one kind. -/
def keyEq : D → D → Bool
  | .int k a, .int k' b => decide (k = k') && decide (a = b)
  | .str a, .str b => decide (a = b)
  | .bool a, .bool b => a == b
  | _, _ => false
/-- A map's entries, oldest first: what stands at a key; with something put at a key. -/
def mget : List (D × D) → D → Option D
  | [], _ => none
  | (k, v) :: r, x => if keyEq x k then some v else mget r x
def mput : List (D × D) → D → D → List (D × D)
  | [], x, v => [(x, v)]
  | (k, u) :: r, x, v => if keyEq x k then (x, v) :: r else (k, u) :: mput r x v
/-- May a value of this kind be a key that is compared at once? -/
def kdOf : TypeDesc → D → Bool
  | .int q, .int q' _ => decide (q' = q)
  | .string, .str _ => true
  | .bool, .bool _ => true
  | _, _ => false
def mapTy (S : Tys) (T : TypeId) : Option (Nat × Nat × TypeDesc) := match S T with
  | some ti => match ti.und with
    | .map kt et => match S kt with
      | some tk => match tk.und with
        | .int q => some (kt, et, .int q)
        | .string => some (kt, et, .string)
        | .bool => some (kt, et, .bool)
        | _ => none
      | none => none
    | _ => none
  | none => none
/-- The element type of a slice type (of one cell an element). -/
def innerOf (S : Tys) (te : TI) : Option Nat := match te.und with
  | .slice ie => match S ie, te.size, te.zero with
    | some ti, 1, [.nil _] => match Nat.beq ti.size 1 with
      | true => some ie
      | false => none
    | _, _, _ => none
  | _ => none
def callXOf (B : Nat → Option Bx) (t : Option Nat) (f : FuncId) (xs : List AV) : Res := .callX t f xs (handed B xs)
/-- Stores: of a big array; of a header into a matrix; of some cells. -/
def stBig (B : Nat → Option Bx) (ti : TI) (n : Nat) (x y : AV) : Res := match x, y with
  | .ptr b 0, .d (.agg l) => match B b with
    | some (.arr es false) => .need (l.length = n ∧ ti.size = n ∧ es.length = n) (.ok .undef [(b, some (.arr l false))])
    | _ => .bad
  | _, _ => .bad
def stMat (B : Nat → Option Bx) (ti : TI) (T : TypeId) (q : Nat × Nat × Nat × Nat × List (Option (List D)) × Nat) (y : AV) : Res := match q, isAggT ti.und, y with
  | (b, et, ie, v, rows, i), false, .own c _ _ => match B c with
    | some (.row ie' 1 es false) => match Nat.beq ie' ie, Nat.beq et T with
      | true, true => .need (ti.size = 1 ∧ i < rows.length) (.ok .undef [(c, none), (b, some (.mat et ie (v + 1) (rows.set i (some es))))])
      | _, _ => .bad
    | _ => .bad
  | (b, et, ie, v, rows, i), false, .nil _ => .need (ti.size = 1 ∧ i < rows.length) (.ok .undef [(b, some (.mat et ie (v + 1) (rows.set i (some []))))])
  | _, _, _ => .bad
def stPart (B : Nat → Option Bx) (l : List AV) (x : AV) : Res := match x with
  | .ptr b off => match B b with
    | some (.var cs false) => match setL cs off l with
      | some cs' => .ok .undef [(b, some (.var cs' false))]
      | none => .bad
    | _ => .bad
  | .eptr b sz' i off => match B b with
    | some (.row et sz es false) => match Nat.beq sz' sz, allD l with
      | true, some ds => .pick es i fun e => match e with
        | .agg cs => match setL cs off ds with
          | some cs' => .ok .undef [(b, some (.row et sz (es.set i (.agg cs')) false))]
          | none => .bad
        | _ => match off, ds with
          | 0, [x] => .ok .undef [(b, some (.row et sz (es.set i x) false))]
          | _, _ => .bad
      | _, _ => .bad
    | _ => .bad
  | .sptr b sz' i j => match l with
    | [.d x] => match B b with
      | some (.arr es false) => match sz' with
        | 0 => .need (j < es.length) (.ok .undef [(b, some (.arr (es.set j x) false))])
        | _ => .bad
      | some (.row et sz es false) => match Nat.beq sz' sz with
        | true => .pick es i fun e => match e with
          | .agg cs => .need (j < cs.length) (.ok .undef [(b, some (.row et sz (es.set i (.agg (cs.set j x))) false))])
          | _ => .bad
        | false => .bad
      | _ => .bad
    | _ => .bad
  | .mptr b v i j => match l with
    | [.d x] => match B b with
      | some (.mat et ie v' rows) => .need (v = v') (.pickR rows i fun es => .pick es j fun e => match e.one with
        | true => .ok .undef [(b, some (.mat et ie v (rows.set i (some (es.set j x)))))]
        | false => .bad)
      | _ => .bad
    | _ => .bad
  | _ => .bad
/-- A map with something put at a key. -/
def mapSet (S : Tys) (B : Nat → Option Bx) (T : TypeId) (m i x : AV) : Res := match mapTy S T, m, i with
  | some (kt, et, kd), .mp b, .d k => match B b, kdOf kd k with
    | some (.map kt' et' kd' es), true => .need (kt' = kt ∧ et' = et ∧ kd' = kd) (frzAK B (resz S et x) fun d us => .ok .undef (us ++ [(b, some (.map kt et kd (mput es k d)))]))
    | _, _ => .bad
  | _, _, _ => .bad
/-- 'clear' of a part of a slice that the call owns. -/
def clearE (S : Tys) (B : Nat → Option Bx) (T : TypeId) (v : AV) : Res := match v with
  | .view b sz0 lo hi => match B b, S T with
    | some (.row et sz es false), some ti => match ti.und with
      | .slice e => match S e with
        | some te => match zeroFl te, Nat.beq te.size sz, Nat.beq sz0 sz with
          | some z, true, true => .need (lo < hi ∧ hi ≤ es.length) (.ok (.d (.tup [])) [(b, some (.row et sz (es.take lo ++ List.replicate (hi - lo) z ++ es.drop hi) false))])
          | _, _, _ => .bad
        | none => .bad
      | _ => .bad
    | _, _ => .bad
  | _ => .bad
/-- What may be copied into: a slice that the call owns, or a part of it. -/
def dstV (B : Nat → Option Bx) (v : AV) : Option (Nat × Nat × Nat × List D × Nat × Nat) := match v with
  | .own b _ _ => match B b with
    | some (.row et sz es false) => some (b, et, sz, es, 0, es.length)
    | _ => none
  | .view b sz0 lo hi => match B b with
    | some (.row et sz es false) => match Nat.beq sz0 sz with
      | true => some (b, et, sz, es, lo, hi)
      | false => none
    | _ => none
  | _ => none
/-- What may be copied. -/
def srcV (B : Nat → Option Bx) (sz : Nat) (v : AV) (k : List D → Res) : Res := match v with
  | .d (.sl sz' es) => match Nat.beq sz' sz with
    | true => k es
    | false => .bad
  | .nil _ => k []
  | .own b _ _ => match B b with
    | some (.row _ sz' es _) => match Nat.beq sz' sz with
      | true => k es
      | false => .bad
    | _ => .bad
  | .view b sz2 lo hi => match B b with
    | some (.row _ sz' es _) => match Nat.beq sz' sz, Nat.beq sz2 sz with
      | true, true => .need (lo ≤ hi ∧ hi ≤ es.length) (k ((es.take hi).drop lo))
      | _, _ => .bad
    | _ => .bad
  | _ => .bad
def cpy (es : List D) (lo n : Nat) (new : List D) : List D := es.take lo ++ new.take n ++ es.drop (lo + min n new.length)
def copyE (S : Tys) (B : Nat → Option Bx) (T : TypeId) (x y : AV) : Res := match S T with
  | some ti => match ti.und with
    | .slice e => match S e with
      | some te => match dstV B x, te.size with
        | some (b, et, sz', es, lo, hi), sz + 1 => match Nat.beq sz' (sz + 1) with
          | true => srcV B (sz + 1) y fun new => .need (lo ≤ hi ∧ hi ≤ es.length) (.ok (.d (.int .i64 ((min (hi - lo) new.length : Nat) : Int))) [(b, some (.row et (sz + 1) (cpy es lo (hi - lo) new) false))])
          | false => .bad
        | _, _ => .bad
      | none => .bad
    | _ => .bad
  | none => .bad
/-- One operation. 'ρ' reads its operands, 'B' the boxes; 'dr': the region draws its order. -/
def eff (S : Tys) (dr : Bool) (o : Oper) (ρ : Operand → AV) (B : Nat → Option Bx) : Res := match o.op with
  | .move x => .ok (ρ x) []
  | .nilCheck x => match ρ x with
    | .ptr b off => .ok (.ptr b off) []
    | .eptr b sz i off => .ok (.eptr b sz i off) []
    | _ => .bad
  | .assign x => .ok (resz S o.type (ρ x)) []
  | .pick c a b => match ρ c with
    | .d (.bool t) => match t with
      | true => .ok (ρ a) []
      | false => .ok (ρ b) []
    | _ => .bad
  | .alloc T => match o.dst, S T with
    | some t, some ti => match bigTI ti with
      | some (n, z) => .need (ti.size = n ∧ ti.zero = List.replicate n (.d z)) (.ok (.ptr t 0) [(t, some (.arr (List.replicate n z) false))])
      | none => .ok (.ptr t 0) [(t, some (.var ti.zero false))]
    | _, _ => .bad
  | .box T x => match o.dst with
    | some t => match bigO S T with
      | some n => match ρ x with
        | .d (.agg l) => .need (l.length = n) (.ok (.ptr t 0) [(t, some (.arr l false))])
        | _ => .bad
      | none => match partC (resz S T (ρ x)) with
        | some cs => .ok (.ptr t 0) [(t, some (.var cs false))]
        | none => .bad
    | none => .bad
  | .build T ps => match S T with
    | some ti => match ti.und with
      | .struct _ => match fillL S T ρ ti.zero ps.toList with
        | some cs => match oneL cs with
          | true => .ok (mkA cs) []
          | false => .bad
        | none => .bad
      | .array _ e => match S e with
        | some te => match Nat.beq te.size 1, fillArr S e ρ ti.zero ps.toList with
          | true, some cs => match oneL cs with
            | true => .ok (mkA cs) []
            | false => .bad
          | _, _ => .bad
        | none => .bad
      | _ => .bad
    | none => .bad
  | .buildSlice T n ps => match o.dst, S T with
    | some t, some ti => match ti.und with
      | .slice e => match S e with
        | some te => match Nat.ble (n * te.size) 16777216, te.size with
          | true, sz + 1 => match innerOf S te with
            | some ie => match fillM B dr ie ρ n ps.toList with
              | some (es, us) => .ok (.own t 1 n) (us ++ [(t, some (.mat e ie 0 [some es]))])
              | none => match zeroFl te with
                | some z => fillE S B e (sz + 1) ρ (List.replicate n z) ps.toList [] fun es us => .ok (.own t (sz + 1) n) (us ++ [(t, some (.row e (sz + 1) es false))])
                | none => .bad
            | none => match zeroFl te with
              | some z => fillE S B e (sz + 1) ρ (List.replicate n z) ps.toList [] fun es us => .ok (.own t (sz + 1) n) (us ++ [(t, some (.row e (sz + 1) es false))])
              | none => .bad
          | _, _ => .bad
        | none => .bad
      | _ => .bad
    | _, _ => .bad
  | .makeSlice T n c => match o.dst, S T, ρ n, ρ c with
    | some t, some ti, .d (.int .i64 n), .d (.int .i64 c) => match ti.und with
      | .slice e => match S e with
        | some te => match te.size with
          | 0 => .bad
          | sz + 1 => match innerOf S te with
            | some ie => .need (n = c ∧ 0 ≤ n ∧ n * (te.bytes : Int) ≤ 140737488355328 ∧ n ≤ 140737488355328) (.ok (.own t 1 n.toNat) [(t, some (.mat e ie 0 (List.replicate n.toNat (some []))))])
            | none => match zeroFl te with
              | some z => .need (n = c ∧ 0 ≤ n ∧ n * (te.bytes : Int) ≤ 140737488355328 ∧ n ≤ 140737488355328) (.ok (.own t (sz + 1) n.toNat) [(t, some (.row e (sz + 1) (List.replicate n.toNat z) false))])
              | none => .bad
        | none => .bad
      | _ => .bad
    | _, _, _, _ => .bad
  | .load T x => match S T with
    | some ti => match ρ x with
      | .ptr b off => match B b with
        | some (.var cs _) => loadL ti cs off
        | some (.arr es _) => match off, isAggT ti.und with
          | 0, true => .need (es.length = ti.size) (.ok (.d (.agg es)) [])
          | _, _ => .bad
        | _ => .bad
      | .eptr b sz i off => match B b with
        | some (.row _ sz' es _) => match Nat.beq sz sz' with
          | true => .pick es i fun e => loadD ti e.cells off
          | false => .bad
        | some (.mat _ _ v rows) => match off, sz, isAggT ti.und with
          | 0, 1, false => .pickR rows i fun _ => .ok (.sub b v i) []
          | _, _, _ => .bad
        | _ => .bad
      | .mptr b v i j => match isAggT ti.und with
        | true => .bad
        | false => match B b with
          | some (.mat _ _ v' rows) => .need (v = v') (.pickR rows i fun es => .pick es j fun x => loadD ti x.cells 0)
          | _ => .bad
      | .sptr b sz i j => match isAggT ti.und with
        | true => .bad
        | false => match B b with
          | some (.arr es _) => match sz with
            | 0 => .pick es j fun v => .ok (.d v) []
            | _ => .bad
          | some (.row _ sz' es _) => match Nat.beq sz sz' with
            | true => .pick es i fun e => .pick e.cells j fun v => .ok (.d v) []
            | false => .bad
          | _ => .bad
      | .d (.ref cs off) => loadD ti cs off
      | _ => .bad
    | none => .bad
  | .store T x y => match S T with
    | some ti => match bigO S T with
     | some n => stBig B ti n (ρ x) (ρ y)
     | none => match matAt B (ρ x) with
      | some q => stMat B ti T q (ρ y)
      | none => match partC (resz S T (ρ y)) with
       | some l => .need (l.length = ti.size) (stPart B l (ρ x))
       | none => .bad
    | none => .bad
  | .binOp op T x y _ => match op with
    | .eql => effEq3 S T false (ρ x) (ρ y)
    | .neq => effEq3 S T true (ρ x) (ρ y)
    | op => effBin op (ρ x) (ρ y)
  | .unOp op _ x => match op, ρ x with
    | .not, .d (.bool b) => .ok (.d (.bool (!b))) []
    | .neg, .d (.int k n) => .wr k (0 - n) fun z => .ok (.d (.int k z)) []
    | _, _ => .bad
  | .convert s T x => match S s, S T, ρ x with
    | some _, some ti, .d (.int _ n) => match ti.und with
      | .int k => .wr k n fun z => .ok (.d (.int k z)) []
      | _ => .bad
    | some _, some ti, .d (.str b) => match ti.und with
      | .string => .ok (.d (.str b)) []
      | .slice e => match isBytes S s e with
        | true => .ok (.d (.sl 1 (bytesD b))) []
        | false => .bad
      | _ => .bad
    | _, _, _ => .bad
  | .fieldAddr T x f => match fieldOf S T f with
    | some (fo, _, _) => match ρ x with
      | .ptr b off => .ok (.ptr b (off + fo)) []
      | .eptr b sz i off => .ok (.eptr b sz i (off + fo)) []
      | .d (.ref cs off) => .ok (.d (.ref cs (off + fo))) []
      | _ => .bad
    | none => .bad
  | .field T x f => match fieldOf S T f with
    | some (fo, ft, n) => match S ft with
      | some tf => match ρ x, isAggT tf.und with
        | .d (.agg cs), false => match cs[fo]? with
          | some v => .ok (.d v) []
          | none => .bad
        | .d (.agg cs), true => match subL fo n cs with
          | some l => .ok (.d (.agg l)) []
          | none => .bad
        | _, _ => .bad
      | none => .bad
    | none => .bad
  | .indexAddr T x i => match S T, ρ i with
    | some ti, .d (.int _ n) => match ti.und, ρ x with
      | .slice e, .d (.sl sz es) => match S e with
        | some te => match Nat.beq te.size sz with
          | true => .need (0 ≤ n) (.pick es n.toNat fun v => .ok (.d (.ref v.cells 0)) [])
          | false => .bad
        | none => .bad
      | .slice e, .own b sz _ => match S e with
        | some te => match B b with
          | some (.row _ sz' es _) => match Nat.beq te.size sz, Nat.beq sz sz' with
            | true, true => .need (0 ≤ n ∧ n < (es.length : Int)) (.ok (.eptr b sz n.toNat 0) [])
            | _, _ => .bad
          | some (.mat _ _ _ rows) => match te.size with
            | 1 => .need (0 ≤ n ∧ n < (rows.length : Int)) (.ok (.eptr b 1 n.toNat 0) [])
            | _ => .bad
          | _ => .bad
        | none => .bad
      | .slice e, .view b sz lo hi => match S e with
        | some te => match B b with
          | some (.row _ sz' _ _) => match Nat.beq te.size sz, Nat.beq sz sz' with
            | true, true => .need (0 ≤ n ∧ n < ((hi - lo : Nat) : Int)) (.ok (.eptr b sz (lo + n.toNat) 0) [])
            | _, _ => .bad
          | _ => .bad
        | none => .bad
      | .slice e, .sub b v i => match S e with
        | some te => match B b, te.size with
          | some (.mat _ _ v' rows), 1 => .need (v = v') (.pickR rows i fun es => .need (0 ≤ n ∧ n < (es.length : Int)) (.ok (.mptr b v i n.toNat) []))
          | _, _ => .bad
        | none => .bad
      | .array len e, .ptr b off => match S e with
        | some te => match B b with
          | some (.arr _ _) => match off, te.size with
            | 0, 1 => .need (0 ≤ n ∧ n < (len : Int)) (.ok (.sptr b 0 0 n.toNat) [])
            | _, _ => .bad
          | _ => .need (0 ≤ n ∧ n < (len : Int)) (.ok (.ptr b (off + n.toNat * te.size)) [])
        | none => .bad
      | .array len e, .eptr b sz i off => match S e with
        | some te => match te.size with
          | 1 => .need (0 ≤ n ∧ n < (len : Int)) (.ok (.sptr b sz i (off + n.toNat)) [])
          | _ => .bad
        | none => .bad
      | .array len e, .d (.ref cs off) => match S e with
        | some te => match Nat.ble len 40, te.size with
         | false, 1 => .need (0 ≤ n ∧ n < (len : Int)) (.pick cs (off + n.toNat) fun v => .ok (.d (.ref [v] 0)) [])
         | _, _ => .need (0 ≤ n ∧ n < (len : Int)) (.ok (.d (.ref cs (off + n.toNat * te.size))) [])
        | none => .bad
      | _, _ => .bad
    | _, _ => .bad
  | .index T x i => match S T, ρ i with
    | some ti, .d (.int _ n) => match ti.und, ρ x with
      | .string, .d (.str s) => .need (0 ≤ n ∧ n < (s.size : Int)) (.ok (.d (.int .u8 (bAt s n.toNat))) [])
      | .array len e, .d (.agg cs) => match S e with
        | some te => match isAggT te.und with
          | false => match Nat.beq te.size 1 with
            | true => .need (0 ≤ n ∧ n < (len : Int)) (.pick cs n.toNat fun v => .ok (.d v) [])
            | false => .bad
          | true => .bad
        | none => .bad
      | _, _ => .bad
    | _, _ => .bad
  | .slice T x lo hi mx => match S T, mx with
    | some ti, none => match ti.und, ρ x with
      | .string, .d (.str s) => loI (lo.map ρ) fun l => hiI s.size (hi.map ρ) fun h => .need (0 ≤ l ∧ l ≤ h ∧ h ≤ (s.size : Int)) (.ok (.d (.str (s.extract l.toNat h.toNat))) [])
      | .slice e, .d (.sl sz es) => match S e with
        | some te => match Nat.beq te.size sz with
          | true => loI (lo.map ρ) fun l => hiI es.length (hi.map ρ) fun h => .need (0 ≤ l ∧ l ≤ h ∧ h ≤ (es.length : Int)) (.ok (.d (.sl sz ((es.take h.toNat).drop l.toNat))) [])
          | false => .bad
        | none => .bad
      | .slice e, .own b _ _ => match S e with
        | some te => match B b with
          | some (.row et sz es fz) => match Nat.beq te.size sz with
            | true => loI (lo.map ρ) fun l => hiI es.length (hi.map ρ) fun h => .alt (.need (0 ≤ l ∧ l ≤ h ∧ h ≤ (es.length : Int)) (.ok (.d (.sl sz ((es.take h.toNat).drop l.toNat))) (match fz with
                  | true => []
                  | false => [(b, some (.row et sz es true))])))
                (.alt (.need (0 ≤ l ∧ l < h ∧ h ≤ (es.length : Int)) (.ok (.view b sz l.toNat h.toNat) []))
                  (match o.dst, fz with
                  | some t, false => .need (l = 0 ∧ 0 ≤ h ∧ h ≤ (es.length : Int)) (.ok (.own t sz h.toNat) [(b, some .gone), (t, some (.row et sz (es.take h.toNat) false))])
                  | _, _ => .bad))
            | false => .bad
          | _ => .bad
        | none => .bad
      | .slice e, .view b sz l0 h0 => match S e with
        | some te => match Nat.beq te.size sz with
          | true => loI (lo.map ρ) fun l => hiI (h0 - l0) (hi.map ρ) fun h => .alt (.need (0 ≤ l ∧ l < h ∧ h ≤ ((h0 - l0 : Nat) : Int)) (.ok (.view b sz (l0 + l.toNat) (l0 + h.toNat)) []))
              (.need (0 ≤ l ∧ l = h ∧ h ≤ ((h0 - l0 : Nat) : Int)) (.ok (.d (.sl sz [])) []))
          | false => .bad
        | none => .bad
      | .array len e, .ptr b 0 => match S e with
        | some te => match B b, te.size with
          | some (.arr es _), 1 => loI (lo.map ρ) fun l => hiI len (hi.map ρ) fun h => .need ((0 ≤ l ∧ l ≤ h ∧ h ≤ (len : Int)) ∧ es.length = len) (.ok (.d (.sl 1 ((es.take h.toNat).drop l.toNat))) [(b, some (.arr es true))])
          | _, _ => .bad
        | none => .bad
      | _, _ => .bad
    | _, _ => .bad
  | .makeMap T none => match o.dst, mapTy S T with
    | some t, some (kt, et, kd) => .ok (.mp t) [(t, some (.map kt et kd []))]
    | _, _ => .bad
  | .lookup T x i ok => match mapTy S T, ρ x, ρ i with
    | some (kt, et, kd), .mp b, .d k => match B b, S et with
      | some (.map kt' et' kd' es), some te => match zeroFl te, kdOf kd k with
        | some z, true => .need (kt' = kt ∧ et' = et ∧ kd' = kd) (.look es k (fun v => match ok with
            | true => .ok (.d (.tup [v, .bool true])) []
            | false => .ok (.d v) []) (match ok with
            | true => .ok (.d (.tup [z, .bool false])) []
            | false => .ok (.d z) []))
        | _, _ => .bad
      | _, _ => .bad
    | _, _, _ => .bad
  | .mapUpdate T m i x => mapSet S B T (ρ m) (ρ i) (ρ x)
  | .range T x => match o.dst, mapTy S T, ρ x with
    | some t, some _, .mp b => match B b with
      | some (.map _ _ _ es) => .ok (.ptr t 0) [(t, some (.iter (some b) es.length []))]
      | _ => .bad
    | _, _, _ => .bad
  | .next x str => match str, ρ x with
    | false, .ptr b 0 => match B b with
      | some (.iter (some m) n seen) => match B m with
        | some (.map _ _ _ es) => .need (es.length = n) (.nxt es seen (fun j p => .ok (.d (.tup [.bool true, p.1, p.2])) [(b, some (.iter (some m) n (j :: seen)))]) (.ok (.d (.tup [.bool false])) []))
        | _ => .bad
      | _ => .bad
    | _, _ => .bad
  | .entry x => match ρ x with
    | .ptr b 0 => match B b with
      | some (.iter (some m) n (j :: _)) => match B m with
        | some (.map _ _ _ es) => .need (es.length = n) (.pick (es.map fun p => .tup [p.1, p.2]) j fun d => .ok (.d d) [])
        | _ => .bad
      | _ => .bad
    | _ => .bad
  | .insert T m i x => mapSet S B T (ρ m) (ρ i) (ρ x)
  | .extract x i => match ρ x with
    | .d (.tup cs) => match cs[i]? with
      | some v => .ok (.d v) []
      | none => .bad
    | .tup cs => match cs[i]? with
      | some v => .ok v []
      | none => .bad
    | _ => .bad
  | .makeFunc fn first caps => match fn, first.toList with
    | .func f, [] => match capL (caps.toList.map ρ) with
      | some cs => .ok (.fnv f cs) []
      | none => .bad
    | _, _ => .bad
  | .call c => match c.callee with
    | .builtin .len => match c.args.toList.map ρ, c.argTypes.toList with
      | [v], T :: _ => match S T with
        | some ti => match ti.und, v with
          | .slice _, .d (.sl _ es) => .ok (.d (.int .i64 (es.length : Int))) []
          | .slice _, .own b _ _ => match B b with
            | some (.row _ _ es _) => .ok (.d (.int .i64 (es.length : Int))) []
            | some (.mat _ _ _ rows) => .ok (.d (.int .i64 (rows.length : Int))) []
            | _ => .bad
          | .slice _, .sub b v i => match B b with
            | some (.mat _ _ v' rows) => .need (v = v') (.pickR rows i fun es => .ok (.d (.int .i64 (es.length : Int))) [])
            | _ => .bad
          | .slice _, .nil _ => .ok (.d (.int .i64 0)) []
          | .slice _, .view _ _ lo hi => .ok (.d (.int .i64 ((hi - lo : Nat) : Int))) []
          | .map _ _, .mp b => match B b with
            | some (.map _ _ _ es) => .ok (.d (.int .i64 (es.length : Int))) []
            | _ => .bad
          | .string, .d (.str s) => .ok (.d (.int .i64 (s.size : Int))) []
          | .array n _, _ => .ok (.d (.int .i64 (n : Int))) []
          | _, _ => .bad
        | none => .bad
      | _, _ => .bad
    | .builtin .min => match c.args.toList.map ρ with
      | .d (.int .i64 a) :: vs => match foldI minI a vs with
        | some z => .ok (.d (.int .i64 z)) []
        | none => .bad
      | _ => .bad
    | .builtin .max => match c.args.toList.map ρ with
      | .d (.int .i64 a) :: vs => match foldI maxI a vs with
        | some z => .ok (.d (.int .i64 z)) []
        | none => .bad
      | _ => .bad
    | .builtin .clear => match c.args.toList.map ρ, c.argTypes.toList with
      | [v], T :: _ => clearE S B T v
      | _, _ => .bad
    | .builtin .copy => match c.args.toList.map ρ, c.argTypes.toList with
      | [x, y], T :: _ => copyE S B T x y
      | _, _ => .bad
    | .builtin .append => match o.dst, c.args.toList.map ρ, c.argTypes.toList with
      | some t, [s, x], [T, T'] => match Nat.beq T T', S T with
        | true, some ti => match ti.und with
          | .slice e => match S e with
            | some te => match te.size with
              | 0 => .bad
              | sz + 1 => match srcM B x with
                | some (c, et, ie, new) => match Nat.beq et e, sz, oldM B dr c et ie s, allSome new with
                  | true, 0, some (old, kill), some ns => .need ((old.length + ns.length) * te.bytes ≤ 140737488355328 ∧ old.length + ns.length ≤ 140737488355328 ∧ 0 < ns.length)
                      (.ok (.own t 1 (old.length + ns.length)) (kill ++ [kil dr c, (t, some (.mat e ie 0 (old ++ ns.map some)))]))
                  | _, _, _, _ => .bad
                | none => match viewE B e (sz + 1) s with
                | some (b, lo, hi, es, fz) => srcK B (sz + 1) x fun new =>
                  .need (hi = es.length ∧ (es.length + new.length) * te.bytes ≤ 140737488355328 ∧ es.length + new.length ≤ 140737488355328 ∧ 0 < new.length)
                    (.nilq [] (.ok (.view t (sz + 1) lo (es.length + new.length)) [kil dr b, (t, some (.row e (sz + 1) (es ++ new) fz))])
                      (.ok (.own t (sz + 1) (es.length - lo + new.length)) [kil dr b, (t, some (.row e (sz + 1) (es.drop lo ++ new) false))]))
                | none => oldK B dr e (sz + 1) s fun old fz kill => srcK B (sz + 1) x fun new =>
                .need ((old.length + new.length) * te.bytes ≤ 140737488355328 ∧ old.length + new.length ≤ 140737488355328)
                  (.ok (.own t (sz + 1) (old.length + new.length)) (kill ++ [(t, some (.row e (sz + 1) (old ++ new) fz))]))
            | none => .bad
          | _ => .bad
        | _, _ => .bad
      | _, _, _ => .bad
    | .value f => match ρ f with
      | .d (.fn f caps) => match Nat.beq c.args.size c.argTypes.size with
        | true => .alt (frzALK B (zipResz S (c.args.toList.map ρ) c.argTypes.toList) fun l us => .call f (l ++ caps) us)
            (callXOf B o.dst f (zipResz S (c.args.toList.map ρ) c.argTypes.toList ++ caps.map .d))
        | false => .bad
      | .fnv f caps => match Nat.beq c.args.size c.argTypes.size with
        | true => .alt (frzALK B (zipResz S (c.args.toList.map ρ) c.argTypes.toList) fun l us => frzCap B caps fun cs us' => .call f (l ++ cs) (us ++ us'))
            (callXOf B o.dst f (zipResz S (c.args.toList.map ρ) c.argTypes.toList ++ capAV caps))
        | false => .bad
      | _ => .bad
    | _ => .bad
  | _ => .bad
end Go.Vm
end

section
/- The evaluator of regions and bodies; what a contract 'Ev' says. -/
namespace Go.Vm
open Go.RowKit (Below)
/-- The tape stays, and is read on. -/
def TapeOn (w w' : World) : Prop := w'.tape = w.tape ∧ w.drawn ≤ w'.drawn
theorem TapeOn.rfl' {w : World} : TapeOn w w := ⟨rfl, Nat.le_refl _⟩
theorem TapeOn.trans {w w' w'' : World} (h : TapeOn w w') (h' : TapeOn w' w'') : TapeOn w w'' := ⟨h'.1.trans h.1, Nat.le_trans h.2 h'.2⟩
/-- Nothing that was there is written, and the tape is read on. -/
structure BelowD (w w' : World) : Prop extends Below w.heap.size w w' where
  dr : w.drawn ≤ w'.drawn
theorem BelowD.on {w w' : World} (h : BelowD w w') : TapeOn w w' := ⟨h.tape, h.dr⟩
theorem BelowD.refl (w : World) : BelowD w w := ⟨Below.refl _ w, Nat.le_refl _⟩

/-- CONTRACT: called with data that read as 'args', function f returns a value that reads as 'ret'; nothing that was there is written. -/
def Ev (P : Program) (f : FuncId) (args : List D) (ret : D) : Prop :=
  (∃ fn, P.funcs[f]? = some fn ∧ (fn.name == "runtime.NumGoroutine") = false ∧ fn.body.isNone = false) ∧
  ∀ (w : World) (A : Sta) (vals : Array Value), (∀ g o, A g o → g < w.heap.size) → args.length = vals.size →
    (∀ (j : Nat) c v, args[j]? = some c → vals[j]? = some v → Rep w A c v) →
    Calls P f vals w fun e w' => ∃ v A', e = .returned v ∧ Rep w' A' ret v ∧ BelowD w w' ∧
      (∀ g o, A g o → A' g o) ∧ (∀ g o, A' g o → g < w'.heap.size) ∧ (∀ g o, A' g o → A g o ∨ w.heap.size ≤ g)

/-- The blocks that a box claims. -/
def own (L : Lay) (b : Nat) : Bx → Nat → Prop
  | .var _ _, g => g = L.ι b
  | .arr _ _, g => g = L.ι b
  | .row _ _ _ _, g => (L.hd b).ownBlock = some g
  | .mat _ _ v rows, g => (L.hd b).ownBlock = some g ∨ ∃ (i : Nat) (es : List D), rows[i]? = some (some es) ∧ (L.sub b v i).ownBlock = some g
  | .map _ _ _ _, g => g = L.ι b
  | .iter _ _ _, g => g = L.ι b
  | .gone, _ => False

/-- An inner row of a matrix. -/
def inRow (B0 : Nat) (w : World) (A : Sta) (ie : Nat) (v : Value) (es : List D) : Prop :=
  Vm.oneV v = true ∧ ∃ ys, w.ownsRow B0 ie 1 v es.length ys ∧ (∀ (i : Nat) e, es[i]? = some e → e.cells.length = 1 ∧ e.flat = true) ∧
    ∀ (i : Nat) e (j : Nat) c y, es[i]? = some e → e.cells[j]? = some c → ys[i * 1 + j]? = some y → Rep w A c y

/-- What a box reads as. 'B0': blocks from B0 on are the call's own. -/
def BR (B0 : Nat) (L : Lay) (w : World) (A : Sta) (b : Nat) : Bx → Prop
  | .var cs fz => ∃ C t, w.heap[L.ι b]? = some (.cells C t (0, 0)) ∧ C.size = cs.length ∧
      (∀ (j : Nat) c v, cs[j]? = some c → C[j]? = some v → RV L w A c v) ∧ (fz = false → ∀ o, ¬ A (L.ι b) o)
  | .arr es fz => ∃ C t, w.heap[L.ι b]? = some (.cells C t (0, 0)) ∧ C.size = es.length ∧ (∀ c ∈ es, c.one = true) ∧
      (∀ (j : Nat) c v, es[j]? = some c → C[j]? = some v → Rep w A c v) ∧ (fz = false → ∀ o, ¬ A (L.ι b) o)
  | .row et sz es fz => ∃ xs, w.ownsRow B0 et sz (L.hd b) es.length xs ∧
      (∀ (i : Nat) e, es[i]? = some e → e.cells.length = sz ∧ e.flat = true) ∧
      (∀ (i : Nat) e (j : Nat) c v, es[i]? = some e → e.cells[j]? = some c → xs[i * sz + j]? = some v → Rep w A c v) ∧
      (∀ g, (L.hd b).ownBlock = some g → g = L.ι b) ∧
      (L.hd b ≠ .slice none 0 0 → ∀ o, A (L.ι b) o → fz = true ∧ o < es.length * sz)
  | .mat et ie v rows => ∃ xs, w.ownsRow B0 et 1 (L.hd b) rows.length xs ∧ (∀ g, (L.hd b).ownBlock = some g → g = L.ι b) ∧ v = L.top b ∧
      (∀ (i : Nat) es, rows[i]? = some (some es) → xs[i]? = some (L.sub b v i) ∧ inRow B0 w A ie (L.sub b v i) es) ∧
      (∀ (i j : Nat) es es' g, rows[i]? = some (some es) → rows[j]? = some (some es') → (L.sub b v i).ownBlock = some g → (L.sub b v j).ownBlock = some g → i = j) ∧
      (∀ (i : Nat) es g, rows[i]? = some (some es) → (L.sub b v i).ownBlock = some g → (L.hd b).ownBlock ≠ some g) ∧
      (∀ g, own L b (.mat et ie v rows) g → ∀ o, ¬ A g o)
  | .map _ _ kd es => ∃ E clock, w.heap[L.ι b]? = some (.map E clock) ∧ E.size = es.length ∧
      (∀ (j : Nat) p e, es[j]? = some p → E[j]? = some e → Rep w A p.1 e.key ∧ Rep w A p.2 e.val ∧ MapKept.IsKey kd e.key) ∧ (∀ o, ¬ A (L.ι b) o) ∧ (∀ (j : Nat) e, E[j]? = some e → e.born = j) ∧ clock = es.length
  | .iter m n seen => (∃ g, w.heap[L.ι b]? = some (.mapIter g n seen.reverse.toArray n) ∧ ∀ b', m = some b' → g = some (L.ι b')) ∧ ∀ o, ¬ A (L.ι b) o
  | .gone => True

def Bx.men (b : Nat) : Bx → Bool
  | .var cs _ => AV.menL b cs
  | .iter m _ _ => match m with
    | some b' => Nat.beq b b'
    | none => false
  | _ => false
/-- Boxes that are handed over: what they read as; each has its own blocks; what they mention is handed over too. -/
structure HOk (B0 : Nat) (L : Lay) (w : World) (A : Sta) (hs : List (Nat × Bx)) : Prop where
  br : ∀ b x, lk hs b = some x → BR B0 L w A b x
  lo : ∀ b x g, lk hs b = some x → own L b x g → B0 ≤ g ∧ g < w.heap.size
  inj : ∀ b b' x x' g, lk hs b = some x → lk hs b' = some x' → own L b x g → own L b' x' g → b = b'
  cl : ∀ b x b', lk hs b = some x → x.men b' = true → lk hs b' ≠ none
def claims (L : Lay) (hs : List (Nat × Bx)) (g : Nat) : Prop := ∃ b x, lk hs b = some x ∧ own L b x g

/-- CONTRACT of a call that is handed boxes: called with 'xs' and the boxes 'hs' it returns a value that reads as 'v' and leaves the boxes 'us' (those and new ones); nothing else that was there is written. -/
structure EvX (P : Program) (f : FuncId) (xs : List AV) (hs : List (Nat × Bx)) (v : AV) (us : List (Nat × Bx)) : Prop where
  fn : ∃ fn, P.funcs[f]? = some fn ∧ (fn.name == "runtime.NumGoroutine") = false ∧ fn.body.isNone = false
  run : ∀ (B0 : Nat) (w : World) (A : Sta) (L : Lay) (vals : Array Value), B0 ≤ w.heap.size → (∀ g o, A g o → g < w.heap.size) → xs.length = vals.size →
    (∀ (j : Nat) c u, xs[j]? = some c → vals[j]? = some u → RV L w A c u) → (∀ (j : Nat) c b, xs[j]? = some c → c.men b = true → lk hs b ≠ none) → HOk B0 L w A hs →
    Calls P f vals w fun e w' => ∃ u A' L', e = .returned u ∧ RV L' w' A' v u ∧ w'.os = w.os ∧ TapeOn w w' ∧ w'.output = w.output ∧ w.heap.size ≤ w'.heap.size ∧
      (∀ k, k < w.heap.size → ¬ claims L hs k → w'.heap[k]? = w.heap[k]?) ∧
      (∀ g o, A g o → A' g o) ∧ (∀ g o, A g o → w'.cell? ⟨g, o, none⟩ = w.cell? ⟨g, o, none⟩) ∧ (∀ g o, A' g o → g < w'.heap.size) ∧
      (∀ g o, A' g o → A g o ∨ w.heap.size ≤ g ∨ claims L hs g) ∧
      HOk B0 L' w' A' us ∧ (∀ g, claims L' us g → w.heap.size ≤ g ∨ claims L hs g) ∧ (∀ b, lk hs b ≠ none → lk us b ≠ none → L'.eqAt L b) ∧
      (∀ b, v.men b = true → lk us b ≠ none)

structure Need (p A : Prop) : Prop where
  side : p
  rest : A
inductive PickE (es : List D) (i : Nat) (k : D → Prop) : Prop
  | mk (e : D) (h : es[i]? = some e) (r : k e)
inductive PickR (rows : List (Option (List D))) (i : Nat) (k : List D → Prop) : Prop
  | mk (e : List D) (h : rows[i]? = some (some e)) (r : k e)
inductive UnM (rows : List (Option (List D))) (k : List (List D) → Prop) : Prop
  | mk (rs : List (List D)) (h : rows = rs.map some) (r : k rs)
inductive Wr (ik : IntKind) (n : Int) (k : Int → Prop) : Prop
  | mk (z : Int) (h : ik.wrap n = z) (r : k z)
inductive CallK (P : Program) (f : FuncId) (args : List D) (k : D → Prop) : Prop
  | mk (ret : D) (h : Ev P f args ret) (r : k ret)
/-- A map is gone through: an entry that was not met yet, or there is none. -/
structure NextK (es : List (D × D)) (seen : List Nat) (A : Nat → D × D → Prop) (B : Prop) : Prop where
  hit : ∀ j p, es[j]? = some p → j ∉ seen → A j p
  miss : (∀ j, j < es.length → j ∈ seen) → B
/-- A map is looked up: something stands there, or nothing. -/
structure LookK (es : List (D × D)) (k : D) (A : D → Prop) (B : Prop) : Prop where
  hit : ∀ v, mget es k = some v → A v
  miss : mget es k = none → B
/-- A slice is nil, or not: where it has no element, both ways are walked. -/
structure NilK (es : List D) (A B : Prop) : Prop where
  yes : es = [] → A
  no : B
inductive AltK (A B : Prop) : Prop
  | l (h : A)
  | r (h : B)
structure Split (t : Bool) (A B : Prop) : Prop where
  yes : t = true → A
  no : t = false → B

theorem Split.of_true {A B : Prop} (h : A) : Split true A B := ⟨fun _ => h, fun h => (by cases h)⟩
theorem Split.of_false {A B : Prop} (h : B) : Split false A B := ⟨fun h => ((by cases h)), fun _ => h⟩
theorem wrap_in {n : Int} (h : -9223372036854775808 ≤ n ∧ n ≤ 9223372036854775807) : IntKind.i64.wrap n = n := by
  exact IntWalk.i64_in n h
theorem Wr.inr {n : Int} {k : Int → Prop} (h : -9223372036854775808 ≤ n ∧ n ≤ 9223372036854775807) (r : k n) : Wr .i64 n k := ⟨n, wrap_in h, r⟩
theorem Wr.as {ik : IntKind} {n : Int} {k : Int → Prop} (z : Int) (h : ik.wrap n = z) (r : k z) : Wr ik n k := ⟨z, h, r⟩

def hasB : List (Nat × Bx) → Nat → Bool
  | [], _ => false
  | (k, _) :: r, j => match Nat.beq k j with
    | true => true
    | false => hasB r j
def okN (bx : List (Nat × Bx)) : List Nat → Bool
  | [] => true
  | b :: r => match hasB bx b with
    | true => okN bx r
    | false => false
/-- Structs hold one-cell values, tuples hold such or structs. -/
def AV.leaf : AV → Bool
  | .agg _ => false
  | .tup _ => false
  | _ => true
def leafL : List AV → Bool
  | [] => true
  | c :: cs => match c.leaf with
    | true => leafL cs
    | false => false
def AV.wf2 : AV → Bool
  | .agg cs => leafL cs
  | .tup _ => false
  | _ => true
def wfT : List AV → Bool
  | [] => true
  | c :: cs => match c.wf2 with
    | true => wfT cs
    | false => false
def AV.wf : AV → Bool
  | .agg cs => leafL cs
  | .tup cs => wfT cs
  | _ => true
def AV.okIn (bx : List (Nat × Bx)) (v : AV) : Bool := match v.wf with
  | true => okN bx v.mens
  | false => false
def Bx.okIn (bx : List (Nat × Bx)) : Bx → Bool
  | .var cs _ => match leafL cs with
    | true => okN bx (AV.mensL cs)
    | false => false
  | .iter m _ _ => match m with
    | some b => okN bx [b]
    | none => true
  | _ => true

/-! What a call that is handed boxes leaves behind. -/
/-- Names of boxes that a call is handed. -/
def pinned (b : Nat) : Bool := match Nat.ble 1000 b with
  | true => Nat.ble (b + 1) 1100
  | false => false
/-- Names that an operation with the slot t may give to new boxes. -/
def freshN (t b : Nat) : Bool := match Nat.beq b t with
  | true => true
  | false => Nat.beq (b % 2000) t
def isNew (dst : Option Nat) (b : Nat) : Bool := match dst with
  | none => false
  | some t => freshN t b
/-- The names of boxes that come out of a call: each once; the old ones are those that were handed over. -/
def okUs (dst : Option Nat) (hs : List (Nat × Bx)) : List (Nat × Bx) → List (Nat × Bx) → Bool
  | [], seen => coversL seen hs
  | (b, x) :: r, seen => match hasB seen b, hasB hs b, isNew dst b with
    | false, true, _ => okUs dst hs r ((b, x) :: seen)
    | false, false, true => okUs dst hs r ((b, x) :: seen)
    | _, _, _ => false
where
  coversL (seen : List (Nat × Bx)) : List (Nat × Bx) → Bool
    | [] => true
    | (b, _) :: r => match hasB seen b with
      | true => coversL seen r
      | false => false
def someU : List (Nat × Bx) → List (Nat × Option Bx)
  | [] => []
  | (b, x) :: r => (b, some x) :: someU r
def okCl (bx : List (Nat × Bx)) : List (Nat × Bx) → Bool
  | [] => true
  | (_, x) :: r => match x.okIn bx with
    | true => okCl bx r
    | false => false
def okXs (bx : List (Nat × Bx)) : List AV → Bool
  | [] => true
  | v :: r => match v.okIn bx with
    | true => okXs bx r
    | false => false
def rmK {α β : Type} : List (Nat × α) → Nat → (List (Nat × α) → β) → β
  | [], _, k => k []
  | (i, u) :: r, j, k => match Nat.beq i j with
    | true => rmK r j k
    | false => rmK r j fun r' => k ((i, u) :: r')
def pgTK {β : Type} (b : Nat) : List (Nat × AV) → (List (Nat × AV) → β) → β
  | [], k => k []
  | (i, u) :: r, k => match u.men b with
    | true => pgTK b r fun r' => k ((i, .junk) :: r')
    | false => pgTK b r fun r' => k ((i, u) :: r')
def pg1 (b : Nat) (c : AV) : AV := match c.men1 b with
  | true => .junk
  | false => c
def pgM (b : Nat) : Option Nat → Option Nat
  | none => none
  | some m => match Nat.beq b m with
    | true => none
    | false => some m
def pgX (b : Nat) : Bx → Bx
  | .var cs fz => .var (cs.map (pg1 b)) fz
  | .iter m n seen => .iter (pgM b m) n seen
  | x => x
def pgBK {β : Type} (b : Nat) : List (Nat × Bx) → (List (Nat × Bx) → β) → β
  | [], k => k []
  | (i, x) :: r, k => match x with
    | .var cs fz => match AV.menL b cs with
      | true => pgBK b r fun r' => k ((i, .var (cs.map (pg1 b)) fz) :: r')
      | false => pgBK b r fun r' => k ((i, .var cs fz) :: r')
    | .row et sz es fz => pgBK b r fun r' => k ((i, .row et sz es fz) :: r')
    | .arr es fz => pgBK b r fun r' => k ((i, .arr es fz) :: r')
    | .mat et ie v rows => pgBK b r fun r' => k ((i, .mat et ie v rows) :: r')
    | .map kt et kd es => pgBK b r fun r' => k ((i, .map kt et kd es) :: r')
    | .iter m n seen => pgBK b r fun r' => k ((i, .iter (pgM b m) n seen) :: r')
    | .gone => pgBK b r fun r' => k ((i, .gone) :: r')

/-- The boxes' turns; a box whose name fits 'dst' is new. -/
def upsK (dst : Option Nat) : List (Nat × Option Bx) → St → (St → Prop) → Prop
  | [], σ, K => K σ
  | (b, u) :: r, ⟨T, bx⟩, K => match u with
    | none => rmK bx b fun bx' => pgBK b bx' fun bx'' => pgTK b T fun T' => upsK dst r ⟨T', bx''⟩ K
    | some x => match x.okIn bx with
      | true => match isNew dst b, pinned b, lk bx b with
        | true, false, none => stK bx b x fun bx' => upsK dst r ⟨T, bx'⟩ K
        | false, _, some _ => stK bx b x fun bx' => upsK dst r ⟨T, bx'⟩ K
        | _, _, _ => False
      | false => False

def putK (N : Nat) (dst : Option Nat) : St → AV → (St → Prop) → Prop
  | ⟨T, bx⟩, v, K => match dst with
    | none => K ⟨T, bx⟩
    | some t => match Nat.ble (t + 1) N, v.okIn bx with
      | true, true => forceK v fun v' => stK T t v' fun T' => K ⟨T', bx⟩
      | _, _ => False

inductive CallX (P : Program) (t : Option Nat) (f : FuncId) (xs : List AV) (hs : List (Nat × Bx)) (k : AV → List (Nat × Option Bx) → Prop) : Prop
  | mk (v : AV) (us : List (Nat × Bx)) (h : EvX P f xs hs v us) (ok : (okUs t hs us [] && okXs hs xs && okCl hs hs) = true) (r : k v (someU us))

def act (P : Program) (N : Nat) (dst : Option Nat) (σ : St) (K : St → Prop) (r : Res) : Prop :=
  @Res.rec (fun _ => Prop) (fun v ups => upsK dst ups σ fun σ' => putK N dst σ' v K)
    (fun f args ups => CallK P f args fun r => upsK dst ups σ fun σ' => putK N dst σ' (.d r) K)
    (fun t f xs hs => CallX P t f xs hs fun v ups => upsK dst ups σ fun σ' => putK N dst σ' v K)
    (fun p _ ih => Need p ih) (fun es i _ ih => PickE es i ih) (fun rows i _ ih => PickR rows i ih) (fun rows _ ih => UnM rows ih) (fun ik n _ ih => Wr ik n ih) (fun _ _ a b => AltK a b) (fun es k _ _ a b => LookK es k a b) (fun es _ _ a b => NilK es a b) (fun es seen _ _ a b => NextK es seen a b) False r
def step (P : Program) (S : Tys) (N : Nat) (o : Oper) (σ : St) (K : St → Prop) : Prop := act P N o.dst σ K (eff S false o σ.ev (lk σ.bx))

/-- Is operation 'idx' the guard of another one? -/
def isG (idx : Nat) : List Oper → Bool
  | [] => false
  | o :: r => match o.guard with
    | some (j, _) => match Nat.beq j idx with
      | true => true
      | false => isG idx r
    | none => isG idx r
/-- A guard's bool is made a literal: the ways part here. -/
def gsp (g : Bool) (N : Nat) (dst : Option Nat) (σ : St) (K : St → Prop) : Prop := match g with
  | false => K σ
  | true => match dst with
    | none => K σ
    | some t => match σ.get t with
      | .d (.bool b) => Split b (putK N dst σ (.d (.bool true)) K) (putK N dst σ (.d (.bool false)) K)
      | _ => K σ

def dstOf (all : List Oper) (j : Nat) : Option Nat := match all[j]? with
  | some o => o.dst
  | none => none
inductive Go3 where | go | skip | stop
def wantedA (all : List Oper) (o : Oper) (σ : St) : Go3 := match o.guard with
  | none => .go
  | some (j, want) => match dstOf all j with
    | none => .skip
    | some t => match σ.get t with
      | .d (.bool b) => match b, want with
        | true, true => .go
        | false, false => .go
        | true, false => .skip
        | false, true => .skip
      | .undef => .skip
      | _ => .stop

def steps (P : Program) (S : Tys) (N : Nat) (all : List Oper) (idx : Nat) (l : List Oper) : St → (St → Prop) → Prop :=
  @List.rec Oper (fun _ => Nat → St → (St → Prop) → Prop) (fun _ σ K => K σ)
    (fun o _ ih idx σ K => match wantedA all o σ with
      | .go => step P S N o σ fun σ' => gsp (isG idx all) N o.dst σ' fun σ'' => ih (idx + 1) σ'' K
      | .skip => putK N o.dst σ .undef fun σ' => ih (idx + 1) σ' K
      | .stop => False) l idx
theorem steps_cons {P : Program} {S : Tys} {N : Nat} {all : List Oper} {idx : Nat} {o : Oper} {r : List Oper} {σ : St} {K : St → Prop} : steps P S N all idx (o :: r) σ K = match wantedA all o σ with
    | .go => step P S N o σ fun σ' => gsp (isG idx all) N o.dst σ' fun σ'' => steps P S N all (idx + 1) r σ'' K
    | .skip => putK N o.dst σ .undef fun σ' => steps P S N all (idx + 1) r σ' K
    | .stop => False := rfl

/-! Regions that draw their order: each operation's label (boxes read, written, made, mentioned by its result). -/
structure Lab where
  rd : Nat
  wr : Nat
  cr : Nat
  mt : Nat
def maskF : List Nat → Nat → Nat
  | [], acc => acc
  | b :: r, acc => maskF r (Nat.lor acc (Nat.shiftLeft 1 b))
def maskL (l : List Nat) : Nat := maskF l 0
def bitM (m j : Nat) : Bool := Nat.beq (Nat.land (Nat.shiftRight m j) 1) 1
def forceN {β : Type} (n : Nat) (k : Nat → β) : β := match n with
  | 0 => k 0
  | n + 1 => k (n + 1)
def Res.keys : List (Nat × Option Bx) → List Nat
  | [] => []
  | (b, _) :: r => b :: Res.keys r
/-- May this operation touch boxes at all? -/
def touches : Op → Bool
  | .move _ => false
  | .assign _ => false
  | .pick _ _ _ => false
  | .build _ _ => false
  | .binOp _ _ _ _ _ => false
  | .unOp _ _ _ => false
  | .convert _ _ _ => false
  | .fieldAddr _ _ _ => false
  | .field _ _ _ => false
  | .index _ _ _ => false
  | .extract _ _ => false
  | .alloc _ => false
  | .box _ _ => false
  | .makeFunc _ _ _ => false
  | _ => true
def opndMens (ρ : Operand → AV) : List Operand → List Nat
  | [] => []
  | x :: xs => (ρ x).mens ++ opndMens ρ xs

def upsMens : List (Nat × Option Bx) → List Nat
  | [] => []
  | (_, some x) :: r => x.mens ++ upsMens r
  | (_, none) :: r => upsMens r
/-- 'act', the value and the boxes' turns handed on. -/
def actU (P : Program) (N : Nat) (dst : Option Nat) (σ : St) (K : AV → List (Nat × Option Bx) → St → Prop) (r : Res) : Prop :=
  @Res.rec (fun _ => Prop) (fun v ups => upsK dst ups σ fun σ' => putK N dst σ' v (K v ups))
    (fun f args ups => CallK P f args fun r => upsK dst ups σ fun σ' => putK N dst σ' (.d r) (K (.d r) ups))
    (fun t f xs hs => CallX P t f xs hs fun v ups => upsK dst ups σ fun σ' => putK N dst σ' v (K v ups))
    (fun p _ ih => Need p ih) (fun es i _ ih => PickE es i ih) (fun rows i _ ih => PickR rows i ih) (fun rows _ ih => UnM rows ih) (fun ik n _ ih => Wr ik n ih) (fun _ _ a b => AltK a b) (fun es k _ _ a b => LookK es k a b) (fun _ _ _ _ _ => False) (fun _ _ _ _ _ _ => False) False r
/-- The names that 'handL' looks up. -/
def handV (B : Nat → Option Bx) : Nat → List Nat → List (Nat × Bx) → List Nat
  | 0, _, _ => []
  | _ + 1, [], _ => []
  | f + 1, b :: r, acc => b :: (match lk acc b with
    | some _ => handV B f r acc
    | none => match B b with
      | some x => handV B f (x.mens ++ r) ((b, x) :: acc)
      | none => handV B f r acc)
/-- The boxes that an operation may read. -/
def readsOf (o : Oper) (ρ : Operand → AV) (B : Nat → Option Bx) : List Nat := match touches o.op with
  | false => []
  | true => match o.op with
    | .call ⟨.value f, args, _⟩ => opndMens ρ (f :: args.toList) ++ handV B 200 (opndMens ρ args.toList ++ (ρ f).mens) []
    | .next x _ => opndMens ρ [x] ++ handV B 200 (opndMens ρ [x]) []
    | .entry x => opndMens ρ [x] ++ handV B 200 (opndMens ρ [x]) []
    | op => opndMens ρ op.operands.toList
/-- The names that are new. -/
def newOf (B : Nat → Option Bx) : List (Nat × Option Bx) → List Nat
  | [] => []
  | (b, _) :: r => match B b with
    | some _ => newOf B r
    | none => b :: newOf B r
def labOf (o : Oper) (ρ : Operand → AV) (B : Nat → Option Bx) (v : AV) (ups : List (Nat × Option Bx)) : Lab :=
  ⟨maskL (readsOf o ρ B), maskL (Res.keys ups), maskL (newOf B ups), maskL (v.mens ++ upsMens ups)⟩
/-- The mask is gathered as a closed number: it names no variable of the walk. -/
def maskK {β : Type} : List Nat → Nat → (Nat → β) → β
  | [], acc, k => forceN acc k
  | b :: r, acc, k => maskK r (Nat.lor acc (Nat.shiftLeft 1 b)) k
def labK {β : Type} (o : Oper) (ρ : Operand → AV) (B : Nat → Option Bx) (v : AV) (ups : List (Nat × Option Bx)) (k : Lab → β) : β :=
  maskK (readsOf o ρ B) 0 fun a => maskK (Res.keys ups) 0 fun b => maskK (newOf B ups) 0 fun c => maskK (v.mens ++ upsMens ups) 0 fun d => k ⟨a, b, c, d⟩
def noKill : List (Nat × Option Bx) → Bool
  | [] => true
  | (_, none) :: _ => false
  | (_, some _) :: r => noKill r
def memN (x : Nat) : List Nat → Bool
  | [] => false
  | y :: ys => match Nat.beq x y with
    | true => true
    | false => memN x ys
def disjM (a b : Nat) : Bool := Nat.beq (Nat.land a b) 0
def okPair (a b : Lab) : Bool := match disjM a.wr b.rd, disjM b.wr a.rd, disjM a.wr b.wr with
  | true, true, true => match disjM a.cr b.mt, disjM b.cr a.mt with
    | true, true => true
    | _, _ => false
  | _, _, _ => false
/-- The temporaries that an operation looks at (its guard's too). -/
def looksL (all : List Oper) (o : Oper) : List Nat := tmpsOf o.op.operands.toList ++ (match o.guard with
  | some (j, _) => (match dstOf all j with
    | some t => [t]
    | none => [])
  | none => [])
where
  tmpsOf : List Operand → List Nat
    | [] => []
    | .tmp t :: r => t :: tmpsOf r
    | _ :: r => tmpsOf r
def apartL (all : List Oper) (x y : Oper) : Bool :=
  (match x.dst with
  | some d => (match memN d (looksL all y), y.dst with
    | false, some d' => (match Nat.beq d d' with
      | true => false
      | false => true)
    | false, none => true
    | true, _ => false)
  | none => true) &&
  (match y.dst with
  | some d => (match memN d (looksL all x) with
    | true => false
    | false => true)
  | none => true)
/-- What must come before: each operation's own edges and those behind them. -/
def onsOf : List Edge → List Nat
  | [] => []
  | e :: r => match Region.binds .any e with
    | true => e.on :: onsOf r
    | false => onsOf r
def getM (cl : List (Nat × Nat)) (j : Nat) : Nat := match lk cl j with
  | some m => m
  | none => 0
def onsM (cl : List (Nat × Nat)) : List Nat → Nat
  | [] => 0
  | j :: r => Nat.lor (Nat.lor (Nat.shiftLeft 1 j) (getM cl j)) (onsM cl r)
def reachK {β : Type} : Nat → List Oper → List (Nat × Nat) → (List (Nat × Nat) → β) → β
  | _, [], cl, k => k cl
  | i, o :: r, cl, k => forceN (onsM cl (onsOf o.after.toList)) fun m => reachK (i + 1) r ((i, m) :: cl) k
/-- All edges lead back. -/
def backL : Nat → List Oper → Bool
  | _, [] => true
  | i, o :: r => (onsOf o.after.toList).all (fun j => Nat.ble (j + 1) i) && backL (i + 1) r
/-- An operation against those before it, whose labels are known. -/
def okAgainst (all : List Oper) (o : Oper) (l : Lab) (m : Nat) : List (Nat × Oper × Lab) → Bool
  | [] => true
  | (j, p, lj) :: r => match bitM m j with
    | true => okAgainst all o l m r
    | false => match okPair lj l, apartL all p o with
      | true, true => okAgainst all o l m r
      | _, _ => false
/-- A region that draws its order: walked once, in the order of the text; what may come in another order does not touch. -/
def stepsD (P : Program) (S : Tys) (N : Nat) (all : List Oper) (cl : List (Nat × Nat)) (idx : Nat) (l : List Oper) : St → List (Nat × Oper × Lab) → (St → Prop) → Prop :=
  @List.rec Oper (fun _ => Nat → St → List (Nat × Oper × Lab) → (St → Prop) → Prop) (fun _ σ _ K => K σ)
    (fun o _ ih idx σ pv K => match wantedA all o σ with
      | .go => actU P N o.dst σ (fun v ups σ' => match noKill ups with
          | true => labK o σ.ev (lk σ.bx) v ups fun l => match okAgainst all o l (getM cl idx) pv with
            | true => gsp (isG idx all) N o.dst σ' fun σ'' => ih (idx + 1) σ'' ((idx, o, l) :: pv) K
            | false => False
          | false => False) (eff S true o σ.ev (lk σ.bx))
      | .skip => match okAgainst all o ⟨0, 0, 0, 0⟩ (getM cl idx) pv with
        | true => putK N o.dst σ .undef fun σ' => ih (idx + 1) σ' ((idx, o, ⟨0, 0, 0, 0⟩) :: pv) K
        | false => False
      | .stop => False) l idx
theorem stepsD_cons {P : Program} {S : Tys} {N : Nat} {all : List Oper} {cl : List (Nat × Nat)} {idx : Nat} {o : Oper} {r : List Oper} {σ : St} {pv : List (Nat × Oper × Lab)} {K : St → Prop} : stepsD P S N all cl idx (o :: r) σ pv K = match wantedA all o σ with
    | .go => actU P N o.dst σ (fun v ups σ' => match noKill ups with
        | true => labK o σ.ev (lk σ.bx) v ups fun l => match okAgainst all o l (getM cl idx) pv with
          | true => gsp (isG idx all) N o.dst σ' fun σ'' => stepsD P S N all cl (idx + 1) r σ'' ((idx, o, l) :: pv) K
          | false => False
        | false => False) (eff S true o σ.ev (lk σ.bx))
    | .skip => match okAgainst all o ⟨0, 0, 0, 0⟩ (getM cl idx) pv with
      | true => putK N o.dst σ .undef fun σ' => stepsD P S N all cl (idx + 1) r σ' ((idx, o, ⟨0, 0, 0, 0⟩) :: pv) K
      | false => False
    | .stop => False := rfl
def regD (P : Program) (S : Tys) (N : Nat) (all : List Oper) (σ : St) (K : St → Prop) : Prop := match backL 0 all with
  | true => reachK 0 all [] fun cl => stepsD P S N all cl 0 all σ [] K
  | false => False

inductive Ex where
  | normal
  | exit (id : Nat)
  | ret

/-- 'τ' forgets some of what 'σ' knows; 'f' gives σ's name for each of τ's boxes ('none': a slice that is still nil). -/
def leC (f : Nat → Option Nat) : List Cap → List Cap → Prop
  | [], [] => True
  | u :: us, v :: vs => (match v with
    | .box b => match f b with
      | some b' => u = .box b'
      | none => False
    | .dat x => u = .dat x) ∧ leC f us vs
  | _, _ => False
def leA (f : Nat → Option Nat) (u : AV) : AV → Prop
  | .d x => u = .d x
  | .ptr b off => match f b with
    | some b' => u = .ptr b' off
    | none => False
  | .own b sz n => match f b with
    | some b' => u = .own b' sz n
    | none => (∃ s, u = .nil s) ∧ n = 0
  | .nil sz => u = .nil sz
  | .eptr b sz i off => match f b with
    | some b' => u = .eptr b' sz i off
    | none => False
  | .sptr b sz i j => match f b with
    | some b' => u = .sptr b' sz i j
    | none => False
  | .mp b => match f b with
    | some b' => u = .mp b'
    | none => False
  | .view b sz lo hi => match f b with
    | some b' => u = .view b' sz lo hi
    | none => False
  | .sub b v i => pinned b = true ∧ u = .sub b v i
  | .fnv g cs => match u with
    | .fnv g' cs' => g' = g ∧ leC f cs' cs
    | _ => False
  | .junk => True
  | _ => False
def leL (f : Nat → Option Nat) : List AV → List AV → Prop
  | [], [] => True
  | u :: us, v :: vs => leA f u v ∧ leL f us vs
  | _, _ => False
/-- Values with structs in them. -/
def leA2 (f : Nat → Option Nat) (u : AV) : AV → Prop
  | .agg vs => match u with
    | .agg us => leL f us vs ∧ vs.all AV.one = true
    | _ => False
  | v => leA f u v
def leT2 (f : Nat → Option Nat) : List AV → List AV → Prop
  | [], [] => True
  | u :: us, v :: vs => leA2 f u v ∧ leT2 f us vs
  | _, _ => False
def leA3 (f : Nat → Option Nat) (u : AV) : AV → Prop
  | .tup vs => match u with
    | .tup us => leT2 f us vs
    | _ => False
  | v => leA2 f u v
def leX (f : Nat → Option Nat) (u : Option Bx) (b : Nat) : Bx → Prop
  | .var cs fz => f b ≠ none ∧ match u with
    | some (.var cs' fz') => leL f cs' cs ∧ (fz' = true → fz = true)
    | _ => False
  | .row et sz es fz => match f b with
    | none => es = []
    | some _ => match u with
      | some (.row et' sz' es' fz') => et' = et ∧ sz' = sz ∧ es' = es ∧ (fz' = true → fz = true)
      | _ => False
  | .arr es fz => f b ≠ none ∧ match u with
    | some (.arr es' fz') => es' = es ∧ (fz' = true → fz = true)
    | _ => False
  | .map kt et kd es => f b ≠ none ∧ match u with
    | some (.map kt' et' kd' es') => kt' = kt ∧ et' = et ∧ kd' = kd ∧ es' = es
    | _ => False
  | .iter m n seen => f b ≠ none ∧ match u with
    | some (.iter m' n' seen') => n' = n ∧ seen' = seen ∧ match m with
      | none => True
      | some c => match f c with
        | some c' => m' = some c'
        | none => False
    | _ => False
  | .gone => f b ≠ none ∧ match u with
    | some .gone => True
    | _ => False
  | .mat et ie v rows => match f b with
    | none => rows = []
    | some _ => match u with
      | some (.mat et' ie' v' rows') => et' = et ∧ ie' = ie ∧ rows' = rows ∧ (pinned b = true → v' = v)
      | _ => False
def leT (f : Nat → Option Nat) (σ : St) : List (Nat × AV) → Prop
  | [] => True
  | (t, v) :: r => leA3 f (σ.get t) v ∧ leT f σ r
def leB (f : Nat → Option Nat) (σ : St) : List (Nat × Bx) → Prop
  | [] => True
  | (b, x) :: r => leX f (match f b with | some b' => lk σ.bx b' | none => none) b x ∧ leB f σ r
def okAll (bx : List (Nat × Bx)) : List (Nat × AV) → Bool
  | [] => true
  | (_, v) :: r => match v.okIn bx with
    | true => okAll bx r
    | false => false
def okAllB (bx : List (Nat × Bx)) : List (Nat × Bx) → Bool
  | [] => true
  | (_, x) :: r => match x.okIn bx with
    | true => okAllB bx r
    | false => false
/-- Names: τ's to σ's, as a list; a name that is not in it stands for itself. -/
def rnF (rn : List (Nat × Option Nat)) (b : Nat) : Option Nat := match lk rn b with
  | some x => x
  | none => some b
def okRn (rn : List (Nat × Option Nat)) : List (Nat × Bx) → List Nat → Bool
  | [], _ => true
  | (b, _) :: r, seen => match rnF rn b with
    | none => okRn rn r seen
    | some b' => match seen.contains b' with
      | true => false
      | false => okRn rn r (b' :: seen)
def okKeys : List (Nat × Option Nat) → Bool
  | [] => true
  | (k, _) :: r => match pinned k with
    | false => okKeys r
    | true => false
structure Le (σ τ : St) (rn : List (Nat × Option Nat)) : Prop where
  hT : leT (rnF rn) σ τ.T
  hB : leB (rnF rn) σ τ.bx
  hok : (okAll τ.bx τ.T && okAllB τ.bx τ.bx && okRn rn τ.bx [] && okKeys rn) = true

/-- The next round may begin. -/
inductive Again {ι : Type} (I : ι → Prop) (Sk : ι → St) (less : ι → Prop) (σ : St) : Prop
  | mk (i' : ι) (rn : List (Nat × Option Nat)) (hi : I i') (hm : less i') (hl : Le σ (Sk i') rn)
/-- A loop that is walked round by round. -/
def Unr (W : (Ex → St → Prop) → St → Prop) (K : Ex → St → Prop) : Nat → St → Prop
  | 0, _ => False
  | n + 1, σ => W (fun e σ' => match e with
    | .normal => Unr W K n σ'
    | .exit i => K (.exit i) σ'
    | .ret => K .ret σ') σ
inductive LoopK (W : (Ex → St → Prop) → St → Prop) (K : Ex → St → Prop) (σ : St) (m : Nat) : Prop
  | mk {ι : Type} (I : ι → Prop) (Sk : ι → St) (μ : ι → Nat) (i0 : ι) (rn0 : List (Nat × Option Nat)) (hi0 : I i0) (h0 : Le σ (Sk i0) rn0)
      (round : ∀ i, I i → W (fun e σ' => match e with
        | .normal => Again I Sk (fun i' => μ i' < μ i) σ'
        | e => K e σ') (Sk i))
  | unr (n : Nat) (h : Unr W K n σ)

/-- The temporaries that a body writes, as a mask. -/
def dstL : List Oper → Nat → Nat
  | [], m => m
  | o :: r, m => match o.dst with
    | some t => forceN (Nat.lor m (Nat.shiftLeft 1 t)) fun m' => dstL r m'
    | none => dstL r m
noncomputable def dstM (c : Code) : Nat :=
  @Code.rec (fun _ => Nat) 0 (fun _ ops _ => dstL ops.toList 0) (fun _ _ a b => Nat.lor a b) (fun _ _ _ a b => Nat.lor a b) (fun _ _ a => a) (fun _ a => a)
    (fun _ _ _ _ a b => Nat.lor a b) (fun _ => 0) (fun _ a => a) (fun _ => 0) (fun _ => 0) 0 (fun _ => 0) c

def awp (P : Program) (S : Tys) (N : Nat) (c : Code) : (Ex → St → Prop) → St → Prop :=
  @Code.rec (fun _ => (Ex → St → Prop) → St → Prop) (fun K σ => K .normal σ)
    (fun _ ops draw K σ => match draw with
      | false => steps P S N ops.toList 0 ops.toList σ (K .normal)
      | true => regD P S N ops.toList σ (K .normal))
    (fun _ _ iha ihb K σ => iha (fun e σ' => match e with
      | .normal => ihb K σ'
      | .exit i => K (.exit i) σ'
      | .ret => K .ret σ') σ)
    (fun c _ _ iha ihb K σ => match σ.ev c with
      | .d (.bool t) => Split t (iha K σ) (ihb K σ)
      | _ => False)
    (fun id _ ih K σ => ih (fun e σ' => match e with
      | .exit i => match Nat.beq i id with
        | true => K .normal σ'
        | false => K (.exit i) σ'
      | .normal => K .normal σ'
      | .ret => K .ret σ') σ)
    (fun body ih K σ => forceN (dstM body) fun m => LoopK (fun K' σ' => ih K' σ') K σ m)
    (fun _ _ _ _ _ _ _ _ => False)
    (fun i K σ => K (.exit i) σ)
    (fun _ _ _ _ => False) (fun _ _ _ => False) (fun _ _ _ => False)
    (fun K σ => K .ret σ)
    (fun _ _ _ => False)
    c
theorem awp_cond {P : Program} {S : Tys} {N : Nat} {c : Operand} {a b : Code} {K : Ex → St → Prop} {σ : St} : awp P S N (.cond c a b) K σ = match σ.ev c with
    | .d (.bool t) => Split t (awp P S N a K σ) (awp P S N b K σ)
    | _ => False := rfl
end Go.Vm
end
