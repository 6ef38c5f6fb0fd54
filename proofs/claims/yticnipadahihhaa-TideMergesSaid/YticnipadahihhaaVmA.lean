/- The domain of the evaluator: pure data D, abstract values AV, what they read as in a world. No program is named here. -/
import Derived.Calls
import Derived.Orders
import Derived.Below
import Derived.Laws.Sem
namespace Go.Vm
open Go.RowKit (Below)

/-- Pure data: what a Go value holds, memory followed. Slices are lists of elements of 'sz' cells each. -/
inductive D where
  | int (k : IntKind) (n : Int)
  | bool (b : Bool)
  | str (s : ByteArray)
  | sl (sz : Nat) (es : List D)
  | agg (cs : List D)
  | tup (cs : List D)
  | ref (cs : List D) (off : Nat)
  | fn (f : FuncId) (caps : List D)
  deriving Inhabited

def D.cells : D → List D
  | .agg cs => cs
  | x => [x]
def D.one : D → Bool
  | .agg _ => false
  | .tup _ => false
  | _ => true
def D.flat : D → Bool
  | .agg cs => cs.all D.one
  | .tup _ => false
  | _ => true

/-- Cells that nobody writes any more. -/
abbrev Sta := Nat → Nat → Prop

/-- 'v' reads as 'x' in w; all memory that is followed lies in A. -/
inductive Rep (w : World) (A : Sta) : D → Value → Prop
  | int (k : IntKind) (n : Int) : Rep w A (.int k n) (.int k n)
  | bool (b : Bool) : Rep w A (.bool b) (.bool b)
  | str (s : ByteArray) : Rep w A (.str s) (.string s)
  | slnil (sz : Nat) (a : Option Addr) (cap : Nat) : Rep w A (.sl sz []) (.slice a 0 cap)
  | sl {sz : Nat} {es : List D} {cap : Nat} (g o : Nat) (u : Nat → Nat → Value) (hcap : es.length ≤ cap)
      (hsz : ∀ (i : Nat) e, es[i]? = some e → e.cells.length = sz ∧ e.flat = true)
      (hc : ∀ (i : Nat) e (j : Nat) c, es[i]? = some e → e.cells[j]? = some c → A g (o + i * sz + j) ∧ w.cell? ⟨g, o + i * sz + j, none⟩ = some (u i j))
      (hr : ∀ (i : Nat) e (j : Nat) c, es[i]? = some e → e.cells[j]? = some c → Rep w A c (u i j)) :
      Rep w A (.sl sz es) (.slice (some ⟨g, o, none⟩) es.length cap)
  | agg {cs : List D} {vs : Array Value} (hl : cs.length = vs.size) (h1 : ∀ c ∈ cs, c.one = true)
      (hr : ∀ (j : Nat) c v, cs[j]? = some c → vs[j]? = some v → Rep w A c v) : Rep w A (.agg cs) (.agg vs)
  | tup {cs : List D} {vs : Array Value} (hl : cs.length = vs.size) (hr : ∀ (j : Nat) c v, cs[j]? = some c → vs[j]? = some v → Rep w A c v) :
      Rep w A (.tup cs) (.tuple vs)
  | ref {cs : List D} {off : Nat} (g o : Nat) (u : Nat → Value) (h1 : ∀ c ∈ cs, c.one = true)
      (hc : ∀ (j : Nat) c, cs[j]? = some c → A g (o + j) ∧ w.cell? ⟨g, o + j, none⟩ = some (u j))
      (hr : ∀ (j : Nat) c, cs[j]? = some c → Rep w A c (u j)) : Rep w A (.ref cs off) (.pointer (some ⟨g, o + off, none⟩))
  | fn {f : FuncId} {caps : List D} {vs : Array Value} (hl : caps.length = vs.size)
      (hr : ∀ (j : Nat) c v, caps[j]? = some c → vs[j]? = some v → Rep w A c v) : Rep w A (.fn f caps) (.func (.func f) #[] vs)

theorem Rep.frame {w w' : World} {A A' : Sta} (hA : ∀ g o, A g o → A' g o) (hw : ∀ g o, A g o → w'.cell? ⟨g, o, none⟩ = w.cell? ⟨g, o, none⟩)
    {x : D} {v : Value} (h : Rep w A x v) : Rep w' A' x v := by
  induction h with
  | int k n => exact .int k n
  | bool b => exact .bool b
  | str s => exact .str s
  | slnil sz a cap => exact .slnil sz a cap
  | sl g o u hcap hsz hc hr ih =>
    exact .sl g o u hcap hsz (fun i e j c h1 h2 => by
      obtain ⟨a1, a2⟩ := hc i e j c h1 h2
      exact ⟨hA _ _ a1, (hw _ _ a1).trans a2⟩) ih
  | agg hl h1 hr ih => exact .agg hl h1 ih
  | tup hl hr ih => exact .tup hl ih
  | ref g o u h1 hc hr ih =>
    exact .ref g o u h1 (fun j c h2 => by
      obtain ⟨a1, a2⟩ := hc j c h2
      exact ⟨hA _ _ a1, (hw _ _ a1).trans a2⟩) ih
  | fn hl hr ih => exact .fn hl ih

abbrev oneV (v : Value) : Bool := v.oneCell'
theorem Rep.oneV {w : World} {A : Sta} {x : D} {v : Value} (h : Rep w A x v) (h1 : x.one = true) : oneV v = true := by
  cases h <;> first | rfl | cases h1
/-- The cells of a value that reads as x read as x's cells. -/
theorem Rep.cells {w : World} {A : Sta} {x : D} {v : Value} (h : Rep w A x v) (ht : x.flat = true) :
    x.cells.length = v.cells.size ∧ (∀ c ∈ x.cells, c.one = true) ∧ ∀ (j : Nat) c u, x.cells[j]? = some c → v.cells[j]? = some u → Rep w A c u := by
  cases h with
  | agg hl h1 hr => exact ⟨hl, h1, hr⟩
  | tup hl hr => cases ht
  | _ =>
    refine ⟨rfl, ?_, ?_⟩
    · intro c hc
      simp only [D.cells, List.mem_singleton] at hc
      subst hc; rfl
    · intro j c u hc hu
      simp only [D.cells, Value.cells] at hc hu
      cases j with
      | zero =>
        simp only [List.getElem?_cons_zero, Option.some.injEq] at hc
        simp only [List.getElem?_toArray, List.getElem?_cons_zero, Option.some.injEq] at hu
        subst hc; subst hu; constructor <;> assumption
      | succ j => simp at hc

/-- What a closure has captured: a variable of the call's own, or data. -/
inductive Cap where
  | box (b : Nat)
  | dat (x : D)
  deriving Inhabited
def capMen (b : Nat) : List Cap → Bool
  | [] => false
  | c :: r => match c with
    | .box b' => match Nat.beq b b' with
      | true => true
      | false => capMen b r
    | .dat _ => capMen b r
theorem capMen_of_mem {b : Nat} : ∀ {cs : List Cap}, Cap.box b ∈ cs → capMen b cs = true
  | c :: r, h => by
    cases c with
    | box b' =>
      simp only [capMen]
      cases h with
      | head => rw [Nat.beq_refl]
      | tail _ h =>
        cases Nat.beq b b' with
        | true => rfl
        | false => exact capMen_of_mem h
    | dat x =>
      simp only [capMen]
      cases h with
      | tail _ h => exact capMen_of_mem h
/-- Abstract values: pure data, or what points into the call's own memory ('boxes', named by numbers). 'sub': an inner slice of a matrix (its version, its place); 'mptr': into one. 'mp': a map. 'view': a part of a slice that the call owns (elements lo to hi). -/
inductive AV where
  | d (x : D)
  | agg (cs : List AV)
  | tup (cs : List AV)
  | ptr (b : Nat) (off : Nat)
  | eptr (b : Nat) (sz : Nat) (i : Nat) (off : Nat)
  | own (b : Nat) (sz : Nat) (n : Nat)
  | fnv (f : FuncId) (caps : List Cap)
  | sptr (b : Nat) (sz : Nat) (i : Nat) (j : Nat)
  | sub (b : Nat) (v : Nat) (i : Nat)
  | mptr (b : Nat) (v : Nat) (i : Nat) (j : Nat)
  | mp (b : Nat)
  | view (b sz lo hi : Nat)
  | nil (sz : Nat)
  | undef
  | junk
  deriving Inhabited

def AV.men1 (b : Nat) : AV → Bool
  | .ptr b' _ => Nat.beq b b'
  | .eptr b' _ _ _ => Nat.beq b b'
  | .own b' _ _ => Nat.beq b b'
  | .fnv _ cs => capMen b cs
  | .sptr b' _ _ _ => Nat.beq b b'
  | .sub b' _ _ => Nat.beq b b'
  | .mptr b' _ _ _ => Nat.beq b b'
  | .mp b' => Nat.beq b b'
  | .view b' _ _ _ => Nat.beq b b'
  | .agg _ => true
  | .tup _ => true
  | .d _ => false
  | .nil _ => false
  | .undef => false
  | .junk => false
def AV.menL (b : Nat) : List AV → Bool
  | [] => false
  | c :: cs => match c.men1 b with
    | true => true
    | false => menL b cs
def AV.men2 (b : Nat) : AV → Bool
  | .agg cs => AV.menL b cs
  | .tup _ => true
  | .d _ => false
  | .ptr b' _ => Nat.beq b b'
  | .eptr b' _ _ _ => Nat.beq b b'
  | .own b' _ _ => Nat.beq b b'
  | .fnv _ cs => capMen b cs
  | .sptr b' _ _ _ => Nat.beq b b'
  | .sub b' _ _ => Nat.beq b b'
  | .mptr b' _ _ _ => Nat.beq b b'
  | .mp b' => Nat.beq b b'
  | .view b' _ _ _ => Nat.beq b b'
  | .nil _ => false
  | .undef => false
  | .junk => false
def AV.menT (b : Nat) : List AV → Bool
  | [] => false
  | c :: cs => match c.men2 b with
    | true => true
    | false => menT b cs
def AV.men (b : Nat) : AV → Bool
  | .agg cs => AV.menL b cs
  | .tup cs => AV.menT b cs
  | .d _ => false
  | .ptr b' _ => Nat.beq b b'
  | .eptr b' _ _ _ => Nat.beq b b'
  | .own b' _ _ => Nat.beq b b'
  | .fnv _ cs => capMen b cs
  | .sptr b' _ _ _ => Nat.beq b b'
  | .sub b' _ _ => Nat.beq b b'
  | .mptr b' _ _ _ => Nat.beq b b'
  | .mp b' => Nat.beq b b'
  | .view b' _ _ _ => Nat.beq b b'
  | .nil _ => false
  | .undef => false
  | .junk => false
def AV.one : AV → Bool
  | .agg _ => false
  | .tup _ => false
  | .undef => false
  | .junk => false
  | .d x => x.one
  | _ => true
def AV.solid : AV → Bool
  | .undef => false
  | .junk => false
  | _ => true

theorem menL_of_mem {b : Nat} {c : AV} : ∀ {cs : List AV}, c ∈ cs → c.men1 b = true → AV.menL b cs = true
  | c' :: cs, h, hb => by
    simp only [AV.menL]
    cases h with
    | head => rw [hb]
    | tail _ h =>
      cases c'.men1 b with
      | true => rfl
      | false => exact menL_of_mem h hb
theorem menT_of_mem {b : Nat} {c : AV} : ∀ {cs : List AV}, c ∈ cs → c.men2 b = true → AV.menT b cs = true
  | c' :: cs, h, hb => by
    simp only [AV.menT]
    cases h with
    | head => rw [hb]
    | tail _ h =>
      cases c'.men2 b with
      | true => rfl
      | false => exact menT_of_mem h hb
theorem men_le_men1 {b : Nat} {c : AV} (h : c.men b = true) : c.men1 b = true := by
  cases c <;> first | rfl | exact h
theorem men2_le_men1 {b : Nat} {c : AV} (h : c.men2 b = true) : c.men1 b = true := by
  cases c <;> first | rfl | exact h

/-- Where the boxes lie: the block of each; the header of each slice that the call owns; the headers of the inner slices of a matrix, in each of its versions, and its last version. -/
structure Lay where
  ι : Nat → Nat
  hd : Nat → Value
  sub : Nat → Nat → Nat → Value
  top : Nat → Nat
/-- A box lies as it did. -/
structure Lay.eqAt (L' L : Lay) (b : Nat) : Prop where
  ι : L'.ι b = L.ι b
  hd : L'.hd b = L.hd b
  top : L.top b ≤ L'.top b
  sub : ∀ v, v ≤ L.top b → ∀ i, L'.sub b v i = L.sub b v i
theorem Lay.eqAt.rfl' {L : Lay} {b : Nat} : L.eqAt L b := ⟨rfl, rfl, Nat.le_refl _, fun _ _ _ => rfl⟩
theorem Lay.eqAt.trans {L L' L'' : Lay} {b : Nat} (h : L''.eqAt L' b) (h' : L'.eqAt L b) : L''.eqAt L b :=
  ⟨h.ι.trans h'.ι, h.hd.trans h'.hd, Nat.le_trans h'.top h.top, fun v hv i => (h.sub v (Nat.le_trans hv h'.top) i).trans (h'.sub v hv i)⟩

def CapV (L : Lay) (w : World) (A : Sta) : Cap → Value → Prop
  | .box b, v => v = .pointer (some ⟨L.ι b, 0, none⟩)
  | .dat x, v => Rep w A x v
inductive RV (L : Lay) (w : World) (A : Sta) : AV → Value → Prop
  | d {x : D} {v : Value} (h : Rep w A x v) : RV L w A (.d x) v
  | agg {cs : List AV} {vs : Array Value} (hl : cs.length = vs.size) (h1 : ∀ c ∈ cs, c.one = true)
      (hr : ∀ (j : Nat) c v, cs[j]? = some c → vs[j]? = some v → RV L w A c v) : RV L w A (.agg cs) (.agg vs)
  | tup {cs : List AV} {vs : Array Value} (hl : cs.length = vs.size)
      (hr : ∀ (j : Nat) c v, cs[j]? = some c → vs[j]? = some v → RV L w A c v) : RV L w A (.tup cs) (.tuple vs)
  | ptr (b off : Nat) : RV L w A (.ptr b off) (.pointer (some ⟨L.ι b, off, none⟩))
  | eptr (b sz i off : Nat) : RV L w A (.eptr b sz i off) (.pointer (some ⟨L.ι b, i * sz + off, none⟩))
  | own (b sz n : Nat) (h1 : Vm.oneV (L.hd b) = true) : RV L w A (.own b sz n) (L.hd b)
  | fnv {f : FuncId} {caps : List Cap} {vs : Array Value} (hl : caps.length = vs.size) (hr : ∀ (j : Nat) c v, caps[j]? = some c → vs[j]? = some v → CapV L w A c v) :
      RV L w A (.fnv f caps) (.func (.func f) #[] vs)
  | sptr (b sz i j : Nat) : RV L w A (.sptr b sz i j) (.pointer (some ⟨L.ι b, i * sz + j, none⟩))
  | sub (b v i : Nat) (h1 : Vm.oneV (L.sub b v i) = true) (hv : v ≤ L.top b) : RV L w A (.sub b v i) (L.sub b v i)
  | mptr (b v i j g : Nat) (hg : (L.sub b v i).ownBlock = some g) (hv : v ≤ L.top b) : RV L w A (.mptr b v i j) (.pointer (some ⟨g, j, none⟩))
  | mp (b : Nat) : RV L w A (.mp b) (.map (some (L.ι b)))
  | view (b sz lo hi g n C : Nat) (hh : L.hd b = .slice (some ⟨g, 0, none⟩) n C) (hb : lo < hi ∧ hi ≤ n ∧ n ≤ C) : RV L w A (.view b sz lo hi) (.slice (some ⟨g, lo * sz, none⟩) (hi - lo) (C - lo))
  | nil (sz : Nat) : RV L w A (.nil sz) (.slice none 0 0)
  | undef : RV L w A .undef Go.undef
  | junk (v : Value) : RV L w A .junk v

theorem RV.frame {L L' : Lay} {w w' : World} {A A' : Sta} (hA : ∀ g o, A g o → A' g o) (hw : ∀ g o, A g o → w'.cell? ⟨g, o, none⟩ = w.cell? ⟨g, o, none⟩)
    {x : AV} {v : Value} (h : RV L w A x v) : (∀ b, x.men1 b = true → L'.eqAt L b) → RV L' w' A' x v := by
  induction h with
  | d h => exact fun _ => .d (h.frame hA hw)
  | agg hl h1 hr ih =>
    intro hL
    exact .agg hl h1 fun j c v hc hv => ih j c v hc hv fun b _ => hL b rfl
  | tup hl hr ih =>
    intro hL
    exact .tup hl fun j c v hc hv => ih j c v hc hv fun b _ => hL b rfl
  | ptr b off => intro hL; have := (hL b (Nat.beq_refl b)).ι; rw [← this]; exact .ptr b off
  | eptr b sz i off => intro hL; have := (hL b (Nat.beq_refl b)).ι; rw [← this]; exact .eptr b sz i off
  | own b sz n h1 => intro hL; have := (hL b (Nat.beq_refl b)).hd; rw [← this]; exact .own b sz n (by rw [this]; exact h1)
  | fnv hl hr =>
    intro hL
    refine .fnv hl fun j c v hc hv => ?_
    have h1 := hr j c v hc hv
    cases c with
    | box b =>
      have := (hL b (capMen_of_mem (List.mem_of_getElem? hc))).ι
      simp only [CapV] at h1 ⊢
      rw [this]; exact h1
    | dat x => exact Rep.frame hA hw h1
  | sptr b sz i j => intro hL; have := (hL b (Nat.beq_refl b)).ι; rw [← this]; exact .sptr b sz i j
  | sub b v i h1 hv =>
    intro hL
    have hb := hL b (Nat.beq_refl b)
    have := hb.sub v hv i
    rw [← this]; exact .sub b v i (by rw [this]; exact h1) (Nat.le_trans hv hb.top)
  | mptr b v i j g hg hv =>
    intro hL
    have hb := hL b (Nat.beq_refl b)
    exact .mptr b v i j g (by rw [hb.sub v hv i]; exact hg) (Nat.le_trans hv hb.top)
  | mp b => intro hL; have := (hL b (Nat.beq_refl b)).ι; rw [← this]; exact .mp b
  | view b sz lo hi g n C hh hb => intro hL; have := (hL b (Nat.beq_refl b)).hd; exact .view b sz lo hi g n C (by rw [this]; exact hh) hb
  | nil sz => exact fun _ => .nil sz
  | undef => exact fun _ => .undef
  | junk v => exact fun _ => .junk v
/-- The same with the layout kept where the value itself mentions a box. -/
theorem RV.frame2 {L L' : Lay} {w w' : World} {A A' : Sta} (hA : ∀ g o, A g o → A' g o) (hw : ∀ g o, A g o → w'.cell? ⟨g, o, none⟩ = w.cell? ⟨g, o, none⟩)
    {x : AV} {v : Value} (h : RV L w A x v) (hL : ∀ b, x.men2 b = true → L'.eqAt L b) : RV L' w' A' x v := by
  cases h with
  | agg hl h1 hr =>
    refine .agg hl h1 fun j c v hc hv => (hr j c v hc hv).frame hA hw fun b hb => hL b ?_
    exact menL_of_mem (List.mem_of_getElem? hc) hb
  | tup hl hr => exact (RV.tup hl hr).frame hA hw fun b' _ => hL b' rfl
  | d h => exact .d (h.frame hA hw)
  | ptr b off => exact (RV.ptr b off).frame hA hw fun b' hb => hL b' hb
  | eptr b sz i off => exact (RV.eptr b sz i off).frame hA hw fun b' hb => hL b' hb
  | own b sz n h1 => exact (RV.own b sz n h1).frame hA hw fun b' hb => hL b' hb
  | fnv hl hr => exact (RV.fnv hl hr).frame hA hw fun b' hb => hL b' hb
  | sptr b sz i j => exact (RV.sptr b sz i j).frame hA hw fun b' hb => hL b' hb
  | sub b v i h1 hv => exact (RV.sub b v i h1 hv).frame hA hw fun b' hb => hL b' hb
  | mptr b v i j g hg hv => exact (RV.mptr b v i j g hg hv).frame hA hw fun b' hb => hL b' hb
  | mp b => exact (RV.mp b).frame hA hw fun b' hb => hL b' hb
  | view b sz lo hi g n C hh hb => exact (RV.view b sz lo hi g n C hh hb).frame hA hw fun b' hb => hL b' hb
  | nil sz => exact .nil sz
  | undef => exact .undef
  | junk v => exact .junk v
theorem RV.frame' {L L' : Lay} {w w' : World} {A A' : Sta} (hA : ∀ g o, A g o → A' g o) (hw : ∀ g o, A g o → w'.cell? ⟨g, o, none⟩ = w.cell? ⟨g, o, none⟩)
    {x : AV} {v : Value} (h : RV L w A x v) (hL : ∀ b, x.men b = true → L'.eqAt L b) : RV L' w' A' x v := by
  cases x with
  | tup cs =>
    cases h with
    | tup hl hr =>
      refine .tup hl fun j c v hc hv => (hr j c v hc hv).frame2 hA hw fun b hb => hL b ?_
      exact menT_of_mem (List.mem_of_getElem? hc) hb
  | _ => exact h.frame2 hA hw hL
theorem RV.oneV {L : Lay} {w : World} {A : Sta} {x : AV} {v : Value} (h : RV L w A x v) (h1 : x.one = true) : oneV v = true := by
  cases h with
  | d h => exact h.oneV h1
  | agg hl h1' hr => cases h1
  | tup hl hr => cases h1
  | ptr b off => rfl
  | eptr b sz i off => rfl
  | own b sz n h2 => exact h2
  | fnv hl hr => rfl
  | sptr b sz i j => rfl
  | sub b v i h2 hv => exact h2
  | mptr b v i j g hg hv => rfl
  | mp b => rfl
  | view b sz lo hi g n C hh hb => rfl
  | nil sz => rfl
  | undef => cases h1
  | junk v => cases h1

def AV.cells : AV → List AV
  | .agg cs => cs
  | .d (.agg cs) => cs.map .d
  | v => [v]
def AV.flat : AV → Bool
  | .d x => x.flat
  | _ => true
theorem flat_of_rep {w : World} {A : Sta} {x : D} {v : Value} (h : Rep w A x v) (hv : ∀ vs, v ≠ .tuple vs) : x.flat = true := by
  cases h with
  | agg hl h1 hr => simp only [D.flat, List.all_eq_true]; exact h1
  | tup hl hr => exact absurd rfl (hv _)
  | _ => rfl
theorem RV.cells {L : Lay} {w : World} {A : Sta} {x : AV} {v : Value} (h : RV L w A x v) (hs : x.solid = true) (hv : ∀ vs, v ≠ .tuple vs) :
    x.cells.length = v.cells.size ∧ (∀ c ∈ x.cells, c.one = true) ∧ ∀ (j : Nat) c u, x.cells[j]? = some c → v.cells[j]? = some u → RV L w A c u := by
  have single : ∀ (y : AV) (u : Value), RV L w A y u → y.cells = [y] → u.cells = #[u] → y.one = true →
      y.cells.length = u.cells.size ∧ (∀ c ∈ y.cells, c.one = true) ∧ ∀ (j : Nat) c z, y.cells[j]? = some c → u.cells[j]? = some z → RV L w A c z := by
    intro y u hy h1 h2 h3
    rw [h1, h2]
    refine ⟨rfl, fun c hc => by rw [List.mem_singleton] at hc; rw [hc]; exact h3, fun j c z hc hz => ?_⟩
    cases j with
    | zero =>
      simp only [List.getElem?_cons_zero, Option.some.injEq] at hc
      simp only [List.getElem?_toArray, List.getElem?_cons_zero, Option.some.injEq] at hz
      subst hc; subst hz; exact hy
    | succ j => simp at hc
  cases h with
  | @d x v h =>
    cases h with
    | agg hl h1 hr =>
      refine ⟨by simp [AV.cells, Value.cells, hl], ?_, ?_⟩
      · intro c hc
        simp only [AV.cells, List.mem_map] at hc
        obtain ⟨y, hy, rfl⟩ := hc
        exact h1 y hy
      · intro j c u hc hu
        simp only [AV.cells, List.getElem?_map, Option.map_eq_some_iff] at hc
        obtain ⟨y, hy, rfl⟩ := hc
        exact .d (hr j y u hy hu)
    | tup hl hr => exact absurd rfl (hv _)
    | _ => refine single _ _ (.d (by constructor <;> assumption)) rfl rfl rfl
  | agg hl h1 hr => exact ⟨hl, h1, hr⟩
  | tup hl hr => exact absurd rfl (hv _)
  | ptr b off => exact single _ _ (.ptr b off) rfl rfl rfl
  | eptr b sz i off => exact single _ _ (.eptr b sz i off) rfl rfl rfl
  | own b sz n h1 =>
    refine single _ _ (.own b sz n h1) rfl ?_ rfl
    cases hh : L.hd b <;> first | rfl | (rw [hh] at h1; cases h1)
  | fnv hl hr => exact single _ _ (.fnv hl hr) rfl rfl rfl
  | sptr b sz i j => exact single _ _ (.sptr b sz i j) rfl rfl rfl
  | sub b v i h1 hv' =>
    refine single _ _ (.sub b v i h1 hv') rfl ?_ rfl
    cases hh : L.sub b v i <;> first | rfl | (rw [hh] at h1; cases h1)
  | mptr b v i j g hg hv' => exact single _ _ (.mptr b v i j g hg hv') rfl rfl rfl
  | mp b => exact single _ _ (.mp b) rfl rfl rfl
  | view b sz lo hi g n C hh hb => exact single _ _ (.view b sz lo hi g n C hh hb) rfl rfl rfl
  | nil sz => exact single _ _ (.nil sz) rfl rfl rfl
  | undef => cases hs
  | junk v => cases hs
end Go.Vm
