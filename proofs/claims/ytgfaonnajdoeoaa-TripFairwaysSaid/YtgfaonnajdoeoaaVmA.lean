/- The domain of the evaluator: pure data D, abstract values AV, what they read as in a world. No program is named here. -/
import Derived.Calls
import Derived.Orders
import Derived.Below
import Derived.Laws.Sem
namespace Go.Vm
open Go.RowKit (Below)

/-- Pure data: what a Go value holds, memory followed. Slices are lists of elements of 'sz' cells each. -/
inductive D where
  | int (k : IntKind) (n : Int)
  | bool (b : Bool)
  | str (s : ByteArray)
  | sl (sz : Nat) (es : List D)
  | agg (cs : List D)
  | tup (cs : List D)
  | ref (cs : List D) (off : Nat)
  | fn (f : FuncId) (caps : List D)
  deriving Inhabited

def D.cells : D → List D
  | .agg cs => cs
  | x => [x]
def D.one : D → Bool
  | .agg _ => false
  | .tup _ => false
  | _ => true
def D.flat : D → Bool
  | .agg cs => cs.all D.one
  | .tup _ => false
  | _ => true

/-- Cells that nobody writes any more. -/
abbrev Sta := Nat → Nat → Prop

/-- 'v' reads as 'x' in w; all memory that is followed lies in A. -/
inductive Rep (w : World) (A : Sta) : D → Value → Prop
  | int (k : IntKind) (n : Int) : Rep w A (.int k n) (.int k n)
  | bool (b : Bool) : Rep w A (.bool b) (.bool b)
  | str (s : ByteArray) : Rep w A (.str s) (.string s)
  | slnil (sz : Nat) (a : Option Addr) (cap : Nat) : Rep w A (.sl sz []) (.slice a 0 cap)
  | sl {sz : Nat} {es : List D} {cap : Nat} (g o : Nat) (u : Nat → Nat → Value) (hcap : es.length ≤ cap)
      (hsz : ∀ (i : Nat) e, es[i]? = some e → e.cells.length = sz ∧ e.flat = true)
      (hc : ∀ (i : Nat) e (j : Nat) c, es[i]? = some e → e.cells[j]? = some c → A g (o + i * sz + j) ∧ w.cell? ⟨g, o + i * sz + j, none⟩ = some (u i j))
      (hr : ∀ (i : Nat) e (j : Nat) c, es[i]? = some e → e.cells[j]? = some c → Rep w A c (u i j)) :
      Rep w A (.sl sz es) (.slice (some ⟨g, o, none⟩) es.length cap)
  | agg {cs : List D} {vs : Array Value} (hl : cs.length = vs.size) (h1 : ∀ c ∈ cs, c.one = true)
      (hr : ∀ (j : Nat) c v, cs[j]? = some c → vs[j]? = some v → Rep w A c v) : Rep w A (.agg cs) (.agg vs)
  | tup {cs : List D} {vs : Array Value} (hl : cs.length = vs.size) (hr : ∀ (j : Nat) c v, cs[j]? = some c → vs[j]? = some v → Rep w A c v) :
      Rep w A (.tup cs) (.tuple vs)
  | ref {cs : List D} {off : Nat} (g o : Nat) (u : Nat → Value) (h1 : ∀ c ∈ cs, c.one = true)
      (hc : ∀ (j : Nat) c, cs[j]? = some c → A g (o + j) ∧ w.cell? ⟨g, o + j, none⟩ = some (u j))
      (hr : ∀ (j : Nat) c, cs[j]? = some c → Rep w A c (u j)) : Rep w A (.ref cs off) (.pointer (some ⟨g, o + off, none⟩))
  | fn {f : FuncId} {caps : List D} {vs : Array Value} (hl : caps.length = vs.size)
      (hr : ∀ (j : Nat) c v, caps[j]? = some c → vs[j]? = some v → Rep w A c v) : Rep w A (.fn f caps) (.func (.func f) #[] vs)

theorem Rep.frame {w w' : World} {A A' : Sta} (hA : ∀ g o, A g o → A' g o) (hw : ∀ g o, A g o → w'.cell? ⟨g, o, none⟩ = w.cell? ⟨g, o, none⟩)
    {x : D} {v : Value} (h : Rep w A x v) : Rep w' A' x v := by
  induction h with
  | int k n => exact .int k n
  | bool b => exact .bool b
  | str s => exact .str s
  | slnil sz a cap => exact .slnil sz a cap
  | sl g o u hcap hsz hc hr ih =>
    exact .sl g o u hcap hsz (fun i e j c h1 h2 => by
      obtain ⟨a1, a2⟩ := hc i e j c h1 h2
      exact ⟨hA _ _ a1, (hw _ _ a1).trans a2⟩) ih
  | agg hl h1 hr ih => exact .agg hl h1 ih
  | tup hl hr ih => exact .tup hl ih
  | ref g o u h1 hc hr ih =>
    exact .ref g o u h1 (fun j c h2 => by
      obtain ⟨a1, a2⟩ := hc j c h2
      exact ⟨hA _ _ a1, (hw _ _ a1).trans a2⟩) ih
  | fn hl hr ih => exact .fn hl ih

abbrev oneV (v : Value) : Bool := v.oneCell'
theorem Rep.oneV {w : World} {A : Sta} {x : D} {v : Value} (h : Rep w A x v) (h1 : x.one = true) : oneV v = true := by
  cases h <;> first | rfl | cases h1
/-- The cells of a value that reads as x read as x's cells. -/
theorem Rep.cells {w : World} {A : Sta} {x : D} {v : Value} (h : Rep w A x v) (ht : x.flat = true) :
    x.cells.length = v.cells.size ∧ (∀ c ∈ x.cells, c.one = true) ∧ ∀ (j : Nat) c u, x.cells[j]? = some c → v.cells[j]? = some u → Rep w A c u := by
  cases h with
  | agg hl h1 hr => exact ⟨hl, h1, hr⟩
  | tup hl hr => cases ht
  | _ =>
    refine ⟨rfl, ?_, ?_⟩
    · intro c hc
      simp only [D.cells, List.mem_singleton] at hc
      subst hc; rfl
    · intro j c u hc hu
      simp only [D.cells, Value.cells] at hc hu
      cases j with
      | zero =>
        simp only [List.getElem?_cons_zero, Option.some.injEq] at hc
        simp only [List.getElem?_toArray, List.getElem?_cons_zero, Option.some.injEq] at hu
        subst hc; subst hu; constructor <;> assumption
      | succ j => simp at hc

/-- Abstract values: pure data, or what points into the call's own memory ('boxes', named by numbers). -/
inductive AV where
  | d (x : D)
  | agg (cs : List AV)
  | ptr (b : Nat) (off : Nat)
  | eptr (b : Nat) (sz : Nat) (i : Nat) (off : Nat)
  | own (b : Nat) (sz : Nat) (n : Nat)
  | nil (sz : Nat)
  | undef
  | junk
  deriving Inhabited

def AV.men1 (b : Nat) : AV → Bool
  | .ptr b' _ => Nat.beq b b'
  | .eptr b' _ _ _ => Nat.beq b b'
  | .own b' _ _ => Nat.beq b b'
  | .agg _ => true
  | .d _ => false
  | .nil _ => false
  | .undef => false
  | .junk => false
def AV.menL (b : Nat) : List AV → Bool
  | [] => false
  | c :: cs => match c.men1 b with
    | true => true
    | false => menL b cs
def AV.men (b : Nat) : AV → Bool
  | .agg cs => AV.menL b cs
  | .d _ => false
  | .ptr b' _ => Nat.beq b b'
  | .eptr b' _ _ _ => Nat.beq b b'
  | .own b' _ _ => Nat.beq b b'
  | .nil _ => false
  | .undef => false
  | .junk => false
def AV.one : AV → Bool
  | .agg _ => false
  | .undef => false
  | .junk => false
  | .d x => x.one
  | _ => true
def AV.solid : AV → Bool
  | .undef => false
  | .junk => false
  | _ => true

theorem menL_of_mem {b : Nat} {c : AV} : ∀ {cs : List AV}, c ∈ cs → c.men1 b = true → AV.menL b cs = true
  | c' :: cs, h, hb => by
    simp only [AV.menL]
    cases h with
    | head => rw [hb]
    | tail _ h =>
      cases c'.men1 b with
      | true => rfl
      | false => exact menL_of_mem h hb
theorem men_le_men1 {b : Nat} {c : AV} (h : c.men b = true) : c.men1 b = true := by
  cases c <;> first | rfl | exact h

/-- Where the boxes lie: the block of each, and the header of each slice that the call owns. -/
structure Lay where
  ι : Nat → Nat
  hd : Nat → Value

inductive RV (L : Lay) (w : World) (A : Sta) : AV → Value → Prop
  | d {x : D} {v : Value} (h : Rep w A x v) : RV L w A (.d x) v
  | agg {cs : List AV} {vs : Array Value} (hl : cs.length = vs.size) (h1 : ∀ c ∈ cs, c.one = true)
      (hr : ∀ (j : Nat) c v, cs[j]? = some c → vs[j]? = some v → RV L w A c v) : RV L w A (.agg cs) (.agg vs)
  | ptr (b off : Nat) : RV L w A (.ptr b off) (.pointer (some ⟨L.ι b, off, none⟩))
  | eptr (b sz i off : Nat) : RV L w A (.eptr b sz i off) (.pointer (some ⟨L.ι b, i * sz + off, none⟩))
  | own (b sz n : Nat) (h1 : Vm.oneV (L.hd b) = true) : RV L w A (.own b sz n) (L.hd b)
  | nil (sz : Nat) : RV L w A (.nil sz) (.slice none 0 0)
  | undef : RV L w A .undef Go.undef
  | junk (v : Value) : RV L w A .junk v

theorem RV.frame {L L' : Lay} {w w' : World} {A A' : Sta} (hA : ∀ g o, A g o → A' g o) (hw : ∀ g o, A g o → w'.cell? ⟨g, o, none⟩ = w.cell? ⟨g, o, none⟩)
    {x : AV} {v : Value} (h : RV L w A x v) : (∀ b, x.men1 b = true → L'.ι b = L.ι b ∧ L'.hd b = L.hd b) → RV L' w' A' x v := by
  induction h with
  | d h => exact fun _ => .d (h.frame hA hw)
  | agg hl h1 hr ih =>
    intro hL
    exact .agg hl h1 fun j c v hc hv => ih j c v hc hv fun b _ => hL b rfl
  | ptr b off => intro hL; have := (hL b (Nat.beq_refl b)).1; rw [← this]; exact .ptr b off
  | eptr b sz i off => intro hL; have := (hL b (Nat.beq_refl b)).1; rw [← this]; exact .eptr b sz i off
  | own b sz n h1 => intro hL; have := (hL b (Nat.beq_refl b)).2; rw [← this]; exact .own b sz n (by rw [this]; exact h1)
  | nil sz => exact fun _ => .nil sz
  | undef => exact fun _ => .undef
  | junk v => exact fun _ => .junk v
/-- The same with the layout kept where the value itself mentions a box. -/
theorem RV.frame' {L L' : Lay} {w w' : World} {A A' : Sta} (hA : ∀ g o, A g o → A' g o) (hw : ∀ g o, A g o → w'.cell? ⟨g, o, none⟩ = w.cell? ⟨g, o, none⟩)
    {x : AV} {v : Value} (h : RV L w A x v) (hL : ∀ b, x.men b = true → L'.ι b = L.ι b ∧ L'.hd b = L.hd b) : RV L' w' A' x v := by
  cases h with
  | agg hl h1 hr =>
    refine .agg hl h1 fun j c v hc hv => (hr j c v hc hv).frame hA hw fun b hb => hL b ?_
    exact menL_of_mem (List.mem_of_getElem? hc) hb
  | d h => exact .d (h.frame hA hw)
  | ptr b off => exact (RV.ptr b off).frame hA hw fun b' hb => hL b' hb
  | eptr b sz i off => exact (RV.eptr b sz i off).frame hA hw fun b' hb => hL b' hb
  | own b sz n h1 => exact (RV.own b sz n h1).frame hA hw fun b' hb => hL b' hb
  | nil sz => exact .nil sz
  | undef => exact .undef
  | junk v => exact .junk v
theorem RV.oneV {L : Lay} {w : World} {A : Sta} {x : AV} {v : Value} (h : RV L w A x v) (h1 : x.one = true) : oneV v = true := by
  cases h with
  | d h => exact h.oneV h1
  | agg hl h1' hr => cases h1
  | ptr b off => rfl
  | eptr b sz i off => rfl
  | own b sz n h2 => exact h2
  | nil sz => rfl
  | undef => cases h1
  | junk v => cases h1

def AV.cells : AV → List AV
  | .agg cs => cs
  | .d (.agg cs) => cs.map .d
  | v => [v]
def AV.flat : AV → Bool
  | .d x => x.flat
  | _ => true
theorem flat_of_rep {w : World} {A : Sta} {x : D} {v : Value} (h : Rep w A x v) (hv : ∀ vs, v ≠ .tuple vs) : x.flat = true := by
  cases h with
  | agg hl h1 hr => simp only [D.flat, List.all_eq_true]; exact h1
  | tup hl hr => exact absurd rfl (hv _)
  | _ => rfl
theorem RV.cells {L : Lay} {w : World} {A : Sta} {x : AV} {v : Value} (h : RV L w A x v) (hs : x.solid = true) (hv : ∀ vs, v ≠ .tuple vs) :
    x.cells.length = v.cells.size ∧ (∀ c ∈ x.cells, c.one = true) ∧ ∀ (j : Nat) c u, x.cells[j]? = some c → v.cells[j]? = some u → RV L w A c u := by
  have single : ∀ (y : AV) (u : Value), RV L w A y u → y.cells = [y] → u.cells = #[u] → y.one = true →
      y.cells.length = u.cells.size ∧ (∀ c ∈ y.cells, c.one = true) ∧ ∀ (j : Nat) c z, y.cells[j]? = some c → u.cells[j]? = some z → RV L w A c z := by
    intro y u hy h1 h2 h3
    rw [h1, h2]
    refine ⟨rfl, fun c hc => by rw [List.mem_singleton] at hc; rw [hc]; exact h3, fun j c z hc hz => ?_⟩
    cases j with
    | zero =>
      simp only [List.getElem?_cons_zero, Option.some.injEq] at hc
      simp only [List.getElem?_toArray, List.getElem?_cons_zero, Option.some.injEq] at hz
      subst hc; subst hz; exact hy
    | succ j => simp at hc
  cases h with
  | @d x v h =>
    cases h with
    | agg hl h1 hr =>
      refine ⟨by simp [AV.cells, Value.cells, hl], ?_, ?_⟩
      · intro c hc
        simp only [AV.cells, List.mem_map] at hc
        obtain ⟨y, hy, rfl⟩ := hc
        exact h1 y hy
      · intro j c u hc hu
        simp only [AV.cells, List.getElem?_map, Option.map_eq_some_iff] at hc
        obtain ⟨y, hy, rfl⟩ := hc
        exact .d (hr j y u hy hu)
    | tup hl hr => exact absurd rfl (hv _)
    | _ => refine single _ _ (.d (by constructor <;> assumption)) rfl rfl rfl
  | agg hl h1 hr => exact ⟨hl, h1, hr⟩
  | ptr b off => exact single _ _ (.ptr b off) rfl rfl rfl
  | eptr b sz i off => exact single _ _ (.eptr b sz i off) rfl rfl rfl
  | own b sz n h1 =>
    refine single _ _ (.own b sz n h1) rfl ?_ rfl
    cases hh : L.hd b <;> first | rfl | (rw [hh] at h1; cases h1)
  | nil sz => exact single _ _ (.nil sz) rfl rfl rfl
  | undef => cases hs
  | junk v => cases hs
end Go.Vm
