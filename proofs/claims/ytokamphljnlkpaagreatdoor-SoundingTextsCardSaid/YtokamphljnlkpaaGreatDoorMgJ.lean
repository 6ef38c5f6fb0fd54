/- Texts VmW, joined. -/
import Derived.Test.YtokamphljnlkpaaGreatDoorMgH
import Derived.Below
import Derived.ChangeSame
import Derived.OpenShut
import Derived.Carry
import Derived.JoinedOf
import Derived.Handed
section
/- From a contract 'Ev' to a law's statement: arguments that read as data read as typed data D. -/
namespace Go.Vm
open Go.RowKit Go.ChangeShapes Go.WideShapes
inductive Cs where
 | int (k : IntKind)
 | bool
 | str
 | sl (agg : Bool) (cs : List Cs)

def shpF (g : TypeId → Option (Bool × List Cs)) : List Field → Nat → Option (List Cs)
 | [], _ => some []
 | f :: fs, off => match decide (f.offset = off), g f.type with
  | true, some (_, l) => match shpF g fs (off + l.length) with
   | some r => some (l ++ r)
   | none => none
  | _, _ => none
def repC : Nat → List Cs → List Cs
 | 0, _ => []
 | n + 1, l => l ++ repC n l
def shp (S : Tys) : Nat → TypeId → Option (Bool × List Cs)
 | 0, _ => none
 | n + 1, t => match S t with
  | none => none
  | some ti => match ti.und with
   | .int k => if ti.size = 1 then some (false, [.int k]) else none
   | .bool => if ti.size = 1 then some (false, [.bool]) else none
   | .string => if ti.size = 1 then some (false, [.str]) else none
   | .slice e => match shp S n e with
    | some (a, c :: l) => if ti.size = 1 then some (false, [.sl a (c :: l)]) else none
    | _ => none
   | .struct fs => match shpF (shp S n) fs.toList 0 with
    | some l => if l.length = ti.size then some (true, l) else none
    | none => none
   | .array m e => match shp S n e with
    | some (_, l) => if (repC m l).length = ti.size then some (true, repC m l) else none
    | none => none
   | _ => none

inductive Ty : Cs → D → Prop
 | int (k : IntKind) (n : Int) (h : (Lit.int k n).wf = true) : Ty (.int k) (.int k n)
 | bool (b : Bool) : Ty .bool (.bool b)
 | str (s : ByteArray) (h : s.size ≤ maxLen) : Ty .str (.str s)
 | sl {agg : Bool} {cs : List Cs} {es : List D} (hk : ∀ e ∈ es, (agg = true → ∃ ds, e = .agg ds) ∧ (agg = false → e.one = true)) (hl : ∀ e ∈ es, e.cells.length = cs.length)
  (h : ∀ e ∈ es, ∀ (j : Nat) c d, cs[j]? = some c → e.cells[j]? = some d → Ty c d) (hn : es.length ≤ maxLen) : Ty (.sl agg cs) (.sl cs.length es)
theorem Ty.one {c : Cs} {d : D} (h : Ty c d) : d.one = true := by cases h <;> rfl
def TyV (sh : Bool × List Cs) (d : D) : Prop := ((sh.1 = true → ∃ ds, d = .agg ds) ∧ (sh.1 = false → d.one = true)) ∧ d.cells.length = sh.2.length ∧ ∀ (j : Nat) c e, sh.2[j]? = some c → d.cells[j]? = some e → Ty c e

def Old (w : World) : Sta := fun g _ => g < w.heap.size
def Rd (w : World) : List Cs → List Value → List D → Prop
 | [], [], [] => True
 | c :: cs, v :: vs, d :: ds => (Ty c d ∧ Rep w (Old w) d v) ∧ Rd w cs vs ds
 | _, _, _ => False
theorem Rd.append {w : World} : ∀ {l : List Cs} {vs : List Value} {ds : List D} {l' : List Cs} {vs' : List Value} {ds' : List D}, Rd w l vs ds → Rd w l' vs' ds' → Rd w (l ++ l') (vs ++ vs') (ds ++ ds')
 | [], [], [], _, _, _, _, h => h
 | _ :: _, _ :: _, _ :: _, _, _, _, h, h' => ⟨h.1, Rd.append h.2 h'⟩
 | [], [], _ :: _, _, _, _, h, _ => h.elim
 | [], _ :: _, _, _, _, _, h, _ => by cases h
 | _ :: _, [], _, _, _, _, h, _ => by cases h
 | _ :: _, _ :: _, [], _, _, _, h, _ => by cases h
theorem Rd.len {w : World} : ∀ {l : List Cs} {vs : List Value} {ds : List D}, Rd w l vs ds → vs.length = l.length ∧ ds.length = l.length
 | [], [], [], _ => ⟨rfl, rfl⟩
 | _ :: _, _ :: _, _ :: _, h => by
  obtain ⟨a, b⟩ := Rd.len h.2
  exact ⟨by simp [a], by simp [b]⟩
 | [], [], _ :: _, h => h.elim
 | [], _ :: _, _, h => by cases h
 | _ :: _, [], _, h => by cases h
 | _ :: _, _ :: _, [], h => by cases h
theorem Rd.get {w : World} : ∀ {l : List Cs} {vs : List Value} {ds : List D}, Rd w l vs ds → ∀ j : Nat, (∀ c d, l[j]? = some c → ds[j]? = some d → Ty c d) ∧ (∀ d v, ds[j]? = some d → vs[j]? = some v → Rep w (Old w) d v)
 | [], [], [], _, j => ⟨fun c d h => by simp at h, fun d v h => by simp at h⟩
 | _ :: _, _ :: _, _ :: _, h, j => by
  cases j with
  | zero =>
   refine ⟨fun c d hc hd => ?_, fun d v hd hv => ?_⟩
   ·simp only [List.getElem?_cons_zero, Option.some.injEq] at hc hd; subst hc; subst hd; exact h.1.1
   ·simp only [List.getElem?_cons_zero, Option.some.injEq] at hd hv; subst hd; subst hv; exact h.1.2
  | succ j =>
   have := Rd.get h.2 j
   simpa using this
 | [], [], _ :: _, h, _ => h.elim
 | [], _ :: _, _, h, _ => by cases h
 | _ :: _, [], _, h, _ => by cases h
 | _ :: _, _ :: _, [], h, _ => by cases h

theorem cellsOf_of {P : Program} {S : Tys} (hS : TysOk P S) {t : TypeId} {ti : TI} (h : S t = some ti) : P.cellsOf t = ti.size := by
 obtain ⟨i, z, h1, h2, -⟩ := (hS t ti h).info
 simp [Program.cellsOf, h1, h2]
theorem shp_size {P : Program} {S : Tys} (hS : TysOk P S) : ∀ {n : Nat} {t : TypeId} {a : Bool} {l : List Cs}, shp S n t = some (a, l) → P.cellsOf t = l.length
 | 0, t, a, l, h => by cases h
 | n + 1, t, a, l, h => by
  simp only [shp] at h
  split at h
  ·cases h
  ·rename_i ti hti
   rw [cellsOf_of hS hti]
   split at h
   all_goals first
    | cases h; done
    |(split at h
      ·rename_i hz; simp only [Option.some.injEq, Prod.mk.injEq] at h; obtain ⟨-, rfl⟩ := h; exact hz
      ·cases h)
    |(split at h
      ·split at h
       ·rename_i hz; simp only [Option.some.injEq, Prod.mk.injEq] at h; obtain ⟨-, rfl⟩ := h; first | exact hz | exact hz.symm
       ·cases h
      ·cases h)

theorem list_of {α : Type} [Inhabited α] {Q : Nat → α → Prop} : ∀ (n : Nat), (∀ i, i < n → ∃ x, Q i x) → ∃ l : List α, l.length = n ∧ ∀ (i : Nat) x, l[i]? = some x → Q i x
 | 0, _ => ⟨[], rfl, fun i x h => by simp at h⟩
 | n + 1, h => by
  obtain ⟨l, h1, h2⟩ := list_of n fun i hi => h i (by omega)
  obtain ⟨x, hx⟩ := h n (by omega)
  refine ⟨l ++ [x], by simp [h1], fun i y hy => ?_⟩
  by_cases e : i < l.length
  ·rw [List.getElem?_append_left e] at hy; exact h2 i y hy
  ·rw [List.getElem?_append_right (by omega)] at hy
   have : i - l.length = 0 := by
    rcases Nat.eq_zero_or_pos (i - l.length) with h | h
    ·exact h
    ·rw [List.getElem?_eq_none (by simp; omega)] at hy; cases hy
   rw [this] at hy
   simp only [List.getElem?_cons_zero, Option.some.injEq] at hy
   subst hy
   rw [show i = n by omega]; exact hx
def mkE (agg : Bool) (ds : List D) : D := match agg with
 | true => .agg ds
 | false => match ds with
  | [d] => d
  | _ => .agg ds
theorem shp_one {S : Tys} : ∀ {n : Nat} {t : TypeId} {l : List Cs}, shp S n t = some (false, l) → ∃ c, l = [c]
 | 0, t, l, h => by cases h
 | n + 1, t, l, h => by
  simp only [shp] at h
  split at h
  ·cases h
  ·split at h
   all_goals first
    | cases h; done
    |(split at h
      ·simp only [Option.some.injEq, Prod.mk.injEq] at h; obtain ⟨-, rfl⟩ := h; exact ⟨_, rfl⟩
      ·cases h)
    |(split at h
      ·split at h
       ·first | (cases h; done) | (simp only [Option.some.injEq, Prod.mk.injEq, true_and] at h; exact ⟨_, h.symm⟩) | (simp only [Option.some.injEq, Prod.mk.injEq] at h; exact absurd h.1 (by decide))
       ·cases h
      ·cases h)
theorem one_cellsW {d : D} (h : d.one = true) : d.cells = [d] := by cases d <;> first | rfl | cases h
theorem one_flat {d : D} (h : d.one = true) : d.flat = true := by cases d <;> first | rfl | cases h
theorem mkE_spec {w : World} {agg : Bool} {l : List Cs} {vs : List Value} {ds : List D} (h : Rd w l vs ds) (h1 : agg = false → ∃ c, l = [c]) :
 ((agg = true → ∃ ds', mkE agg ds = .agg ds') ∧ (agg = false → (mkE agg ds).one = true)) ∧ (mkE agg ds).cells = ds ∧ (mkE agg ds).flat = true := by
 have hone : ∀ d ∈ ds, d.one = true := by
  intro d hd
  obtain ⟨j, hj⟩ := List.getElem?_of_mem hd
  obtain ⟨hl, hl'⟩ := h.len
  have : j < l.length := by
   rcases Nat.lt_or_ge j l.length with h | h
   ·exact h
   ·rw [List.getElem?_eq_none (by omega)] at hj; cases hj
  exact (((h.get j).1 l[j] d (List.getElem?_eq_getElem this) hj)).one
 cases agg with
 | true => exact ⟨⟨fun _ => ⟨ds, rfl⟩, fun h => by cases h⟩, rfl, by simpa [mkE, D.flat] using hone⟩
 | false =>
  obtain ⟨c, rfl⟩ := h1 rfl
  obtain ⟨d, rfl⟩ := List.length_eq_one_iff.1 h.len.2
  have hd := hone d (by simp)
  exact ⟨⟨fun h => (by cases h), fun _ => hd⟩, one_cellsW hd, one_flat hd⟩

section
variable {H : Type} {enc : TypeId × Value → H} {P : Program} {S : Tys} {w : World} {base : Nat} {spare : Nat → Bool} {held : Bool}
theorem rd_of_trod (hS : TysOk P S) : ∀ (n : Nat) (t : TypeId) (a : Bool) (l : List Cs) (fuel : Nat) (cs : List Value) (x : DataW H × List MemPlace),
 shp S n t = some (a, l) → DataW.trod enc P w base spare held fuel t cs = some x → ∃ ds, Rd w l cs ds
 | 0, t, a, l, fuel, cs, x, h, _ => by cases h
 | n + 1, t, a, l, fuel, cs, x, h, hx => by
  have ih := rd_of_trod hS n
  simp only [shp] at h
  split at h
  ·cases h
  ·rename_i ti hti
   have hu := (hS t ti hti).und
   split at h
   ·rename_i k hk
    rw [hk] at hu
    obtain ⟨m, rfl, -, hw⟩ := DataW.trod_int hu hx
    split at h
    ·simp only [Option.some.injEq, Prod.mk.injEq] at h; obtain ⟨-, rfl⟩ := h
     exact ⟨[.int k m], ⟨.int k m hw, .int k m⟩, trivial⟩
    ·cases h
   ·rename_i hk
    rw [hk] at hu
    obtain ⟨b, rfl, -⟩ := DataW.trod_bool hu hx
    split at h
    ·simp only [Option.some.injEq, Prod.mk.injEq] at h; obtain ⟨-, rfl⟩ := h
     exact ⟨[.bool b], ⟨.bool b, .bool b⟩, trivial⟩
    ·cases h
   ·rename_i hk
    rw [hk] at hu
    obtain ⟨b, rfl, -, hs⟩ := DataW.trod_string hu hx
    split at h
    ·simp only [Option.some.injEq, Prod.mk.injEq] at h; obtain ⟨-, rfl⟩ := h
     exact ⟨[.str b], ⟨.str b hs, .str b⟩, trivial⟩
    ·cases h
   ·rename_i e hk
    rw [hk] at hu
    split at h
    ·rename_i a' c' l' he
     split at h
     ·simp only [Option.some.injEq, Prod.mk.injEq] at h; obtain ⟨-, rfl⟩ := h
      have hsz := shp_size hS he
      rcases DataW.trod_slice hu hx with ⟨rfl, -⟩ | ⟨ad, len, cap, elems, rest, m, -, rfl, -, hb, hlc, hcm, hel, hget, -, -⟩
      ·exact ⟨[.sl (c' :: l').length []], ⟨.sl (fun e h => by cases h) (fun e h => by cases h) (fun e h => by cases h) (by simp), .slnil _ _ _⟩, trivial⟩
      ·rcases Nat.eq_zero_or_pos len with h0 | h0
       ·subst h0
        exact ⟨[.sl (c' :: l').length []], ⟨.sl (fun e h => by cases h) (fun e h => by cases h) (fun e h => by cases h) (by simp), .slnil _ _ _⟩, trivial⟩
       ·have hat : ∀ i, i < len → ∃ p : List D × List Value, Rd w (c' :: l') p.2 p.1 ∧ w.cells? base (ad.add (i * P.cellsOf e)) (P.cellsOf e) = some p.2 := by
         intro i hi
         have := hget i hi
         have hlt : i < elems.length := by omega
         rw [List.getElem?_eq_getElem hlt] at this
         obtain ⟨ci, h1, h2⟩ := Option.bind_eq_some_iff.1 this
         obtain ⟨ds, hd⟩ := ih e a' (c' :: l') m ci _ he h2
         exact ⟨⟨ds, ci⟩, hd, h1⟩
        obtain ⟨ps, hpl, hps⟩ := list_of len hat
        have hspot : ad.spot = none := by
         obtain ⟨p, hp⟩ : ∃ p, ps[0]? = some p := ⟨ps[0], List.getElem?_eq_getElem (by omega)⟩
         obtain ⟨h1, h2⟩ := hps 0 p hp
         obtain ⟨-, h3, h4⟩ := World.cells?_some h2
         have h5 := h4 0 (by rw [hsz]; simp)
         have hl := h1.len.1
         rw [List.getElem?_eq_getElem (by rw [hl]; simp)] at h5
         cases hsp : ad.spot with
         | none => rfl
         | some q =>
          exfalso
          simp only [Nat.zero_mul, Addr.add, if_true] at h5
          unfold World.cell? at h5
          rw [hsp] at h5
          split at h5
          ·simp at h5
          ·cases h5
        obtain ⟨blk, off, sp⟩ := ad
        simp only at hspot
        subst hspot
        have hcell : ∀ (i : Nat) p, ps[i]? = some p → ∀ j : Nat, j < (c' :: l').length → w.cell? ⟨blk, off + i * (c' :: l').length + j, none⟩ = p.2[j]? := by
         intro i p hp j hj
         obtain ⟨h1, h2⟩ := hps i p hp
         obtain ⟨-, h3, h4⟩ := World.cells?_some h2
         have := h4 j (by rw [hsz]; exact hj)
         rw [hsz, Addr.add_lit, Addr.add_lit] at this
         exact this
        refine ⟨[.sl (c' :: l').length (ps.map fun p => mkE a' p.1)], ⟨?_, ?_⟩, trivial⟩
        ·refine .sl (fun e h => ?_) (fun e h => ?_) (fun e h j c d hc hd => ?_) (by simp; omega)
         all_goals
          obtain ⟨p, hp, rfl⟩ := List.mem_map.1 h
          obtain ⟨i, hi⟩ := List.getElem?_of_mem hp
          obtain ⟨h1, -⟩ := hps i p hi
          have hmk := mkE_spec (agg := a') h1 (fun h => by subst h; exact shp_one he)
         ·exact hmk.1
         ·rw [hmk.2.1]; exact h1.len.2
         ·rw [hmk.2.1] at hd; exact (h1.get j).1 c d hc hd
        ·have hlen : (ps.map fun p => mkE a' p.1).length = len := by simp [hpl]
         rw [← hlen]
         refine .sl blk off (fun i j => (w.cell? ⟨blk, off + i * (c' :: l').length + j, none⟩).getD undef) (by omega) (fun i e hi => ?_) (fun i e j c hi hj => ?_) (fun i e j c hi hj => ?_)
         all_goals
          rw [List.getElem?_map, Option.map_eq_some_iff] at hi
          obtain ⟨p, hp, rfl⟩ := hi
          obtain ⟨h1, -⟩ := hps i p hp
          have hmk := mkE_spec (agg := a') h1 (fun h => by subst h; exact shp_one he)
         ·exact ⟨by rw [hmk.2.1]; exact h1.len.2, hmk.2.2⟩
         all_goals
          rw [hmk.2.1] at hj
          have hjl : j < (c' :: l').length := by
           have := h1.len.2
           have := lt_of_get hj
           omega
          have hc := hcell i p hp j hjl
          have hv : ∃ v, p.2[j]? = some v := ⟨p.2[j]'(by have := h1.len.1; omega), List.getElem?_eq_getElem _⟩
          obtain ⟨v, hv⟩ := hv
          rw [hv] at hc
         ·refine ⟨?_, by rw [hc]; rfl⟩
          show blk < w.heap.size
          unfold World.cell? at hc
          split at hc
          ·rename_i hb'
           exact (Array.getElem?_eq_some_iff.1 hb').1
          ·cases hc
         ·show Rep w (Old w) c ((w.cell? ⟨blk, off + i * (c' :: l').length + j, none⟩).getD undef)
          rw [hc]; exact (h1.get j).2 c v hj hv
     ·cases h
    ·cases h
   ·rename_i fs hk
    rw [hk] at hu
    split at h
    ·rename_i l0 hl0
     split at h
     ·rename_i hlz
      simp only [Option.some.injEq, Prod.mk.injEq] at h; obtain ⟨-, rfl⟩ := h
      obtain ⟨xs, m, -, -, hcs, hxs, hget⟩ := DataW.trod_struct hu hx
      rw [cellsOf_of hS hti, ← hlz] at hcs
      have key : ∀ (gs : List Field) (off : Nat) (l : List Cs), (∀ f ∈ gs, ∃ y, DataW.trod enc P w base spare held m f.type ((cs.drop f.offset).take (P.cellsOf f.type)) = some y) →
       shpF (shp S n) gs off = some l → cs.length = off + l.length → ∃ ds, Rd w l (cs.drop off) ds := by
       intro gs
       induction gs with
       | nil =>
        intro off l _ hl hc
        simp only [shpF, Option.some.injEq] at hl
        subst hl
        rw [List.drop_eq_nil_of_le (by simp at hc; omega)]
        exact ⟨[], trivial⟩
       | cons f gs ihg =>
        intro off l hf hl hc
        simp only [shpF] at hl
        split at hl
        ·rename_i a1 l1 ho hs
         have ho : f.offset = off := of_decide_eq_true ho
         split at hl
         ·rename_i r hr
          simp only [Option.some.injEq] at hl
          subst hl
          simp only [List.length_append] at hc
          obtain ⟨ds2, hd2⟩ := ihg (off + l1.length) r (fun f' h' => hf f' (List.mem_cons_of_mem _ h')) hr (by omega)
          obtain ⟨y, hy⟩ := hf f (List.mem_cons_self ..)
          obtain ⟨ds1, hd1⟩ := ih f.type a1 l1 m _ _ hs hy
          rw [shp_size hS hs, ho] at hd1
          refine ⟨ds1 ++ ds2, ?_⟩
          rw [← List.take_append_drop l1.length (cs.drop off), List.drop_drop]
          exact hd1.append hd2
         ·cases hl
        ·cases hl
      obtain ⟨ds, hd⟩ := key fs.toList 0 l0 (fun f hf => by
       obtain ⟨i, hi⟩ := List.getElem?_of_mem hf
       have := hget i f (by simpa using hi)
       have hlt : i < xs.length := by
        have := lt_of_get hi
        simp at this; omega
       rw [List.getElem?_eq_getElem hlt] at this
       exact ⟨_, this⟩) hl0 (by omega)
      exact ⟨ds, hd⟩
     ·cases h
    ·cases h
   ·rename_i m e hk
    rw [hk] at hu
    split at h
    ·rename_i a1 l0 hl0
     split at h
     ·rename_i hlz
      simp only [Option.some.injEq, Prod.mk.injEq] at h; obtain ⟨-, rfl⟩ := h
      obtain ⟨xs, m', -, -, hcs, hxs, hget⟩ := DataW.trod_array hu hx
      rw [cellsOf_of hS hti, ← hlz] at hcs
      have hsz := shp_size hS hl0
      have key : ∀ (k i : Nat), i + k = m → cs.length = i * l0.length + (repC k l0).length → ∃ ds, Rd w (repC k l0) (cs.drop (i * l0.length)) ds := by
       intro k
       induction k with
       | zero =>
        intro i _ hc
        rw [List.drop_eq_nil_of_le (by simp [repC] at hc; omega)]
        exact ⟨[], trivial⟩
       | succ k ihk =>
        intro i hi hc
        simp only [repC, List.length_append] at hc
        have hy := hget i (by omega)
        rw [List.getElem?_eq_getElem (show i < xs.length by omega), hsz] at hy
        obtain ⟨ds1, hd1⟩ := ih e a1 l0 m' _ _ hl0 hy
        obtain ⟨ds2, hd2⟩ := ihk (i + 1) (by omega) (by rw [Nat.succ_mul]; omega)
        refine ⟨ds1 ++ ds2, ?_⟩
        simp only [repC]
        rw [← List.take_append_drop l0.length (cs.drop (i * l0.length)), List.drop_drop]
        rw [Nat.succ_mul] at hd2
        exact hd1.append hd2
      obtain ⟨ds, hd⟩ := key m 0 (by omega) (by omega)
      simp only [Nat.zero_mul, List.drop_zero] at hd
      exact ⟨ds, hd⟩
     ·cases h
    ·cases h
   ·cases h

theorem rep_of_trod (hS : TysOk P S) {n : Nat} {t : TypeId} {sh : Bool × List Cs} (hsh : shp S n t = some sh) {base' : Nat} {v : Value} (hok : Value.okWide P w .any base' t v) {d : DataW H} {ps : List MemPlace}
 (h : DataW.Trod enc P w base spare held t v d ps) : ∃ x, TyV sh x ∧ Rep w (Old w) x v := by
 obtain ⟨fuel, hx⟩ := h
 obtain ⟨a, l⟩ := sh
 obtain ⟨ds, hd⟩ := rd_of_trod hS n t a l fuel _ _ hsh hx
 have hl := hd.len
 have hagg : a = true → ∃ cs, v = .agg cs := by
  rintro rfl
  cases n with
  | zero => cases hsh
  | succ n =>
   simp only [shp] at hsh
   split at hsh
   ·cases hsh
   ·rename_i ti hti
    have hu := (hS t ti hti).und
    unfold Value.okWide at hok
    rw [hu] at hok
    split at hsh <;> rename_i hk
    all_goals first
     |(rw [hk] at hok; obtain ⟨cs, hv, -⟩ := hok; exact ⟨cs, hv⟩)
     |(exfalso; revert hsh; (repeat' split) <;> simp)
 have hnagg : a = false → ∀ cs, v ≠ .agg cs ∧ v ≠ .tuple cs := by
  rintro rfl cs
  cases n with
  | zero => cases hsh
  | succ n =>
   simp only [shp] at hsh
   split at hsh
   ·cases hsh
   ·rename_i ti hti
    have hu := (hS t ti hti).und
    unfold Value.okWide at hok
    rw [hu] at hok
    split at hsh <;> rename_i hk
    all_goals first
     |(exfalso; revert hsh; (repeat' split) <;> simp; done)
     |(rw [hk] at hok hu
       simp only [Cell.okWide, Cell.ok, hu] at hok
       constructor <;> (rintro rfl; simp at hok))
 cases a with
 | true =>
  obtain ⟨cs, rfl⟩ := hagg rfl
  simp only [Value.cells] at hd hl
  refine ⟨.agg ds, ⟨⟨fun _ => ⟨ds, rfl⟩, fun h => by cases h⟩, hl.2, fun j c e hc he => (hd.get j).1 c e hc he⟩, .agg ?_ (fun c hc => ?_) fun j c v hc hv => (hd.get j).2 c v hc (by simpa using hv)⟩
  ·have := hl.1; simp at this; omega
  ·obtain ⟨j, hj⟩ := List.getElem?_of_mem hc
   have : j < l.length := by have := lt_of_get hj; omega
   exact ((hd.get j).1 l[j] c (List.getElem?_eq_getElem this) hj).one
 | false =>
  obtain ⟨c, rfl⟩ := shp_one hsh
  have hv : v.cells = #[v] := by
   cases v <;> first | rfl | exact absurd rfl (hnagg rfl _).1 | exact absurd rfl (hnagg rfl _).2
  rw [hv] at hd
  match ds, hd with
  | [d0], hd =>
   have h1 := (hd.get 0).1 c d0 rfl rfl
   refine ⟨d0, ⟨⟨fun h => (by cases h), fun _ => h1.one⟩, by rw [one_cellsW h1.one]; rfl, fun j c' e hc he => ?_⟩, (hd.get 0).2 d0 v rfl rfl⟩
   rw [one_cellsW h1.one] at he
   exact (hd.get j).1 c' e hc he

def TyVs : List (Bool × List Cs) → List D → Prop
 | [], [] => True
 | s :: ss, d :: ds => TyV s d ∧ TyVs ss ds
 | _, _ => False
theorem reps_of_trodAll (hS : TysOk P S) {n : Nat} {base' : Nat} : ∀ {ts : List TypeId} {shs : List (Bool × List Cs)} {vs : List Value} {ds : List (DataW H)} {ps : List MemPlace}, ts.map (shp S n) = shs.map some →
 (∀ (j : Nat) t v, ts[j]? = some t → vs[j]? = some v → Value.okWide P w .any base' t v) → DataW.TrodAll enc P w base spare held ts vs ds ps →
 ∃ xs, TyVs shs xs ∧ xs.length = vs.length ∧ ∀ (j : Nat) c v, xs[j]? = some c → vs[j]? = some v → Rep w (Old w) c v
 | [], [], [], [], ps, _, _, _ => ⟨[], trivial, rfl, fun j c v h => by simp at h⟩
 | t :: ts, s :: shs, v :: vs, d :: ds, ps, hs, hok, ⟨p, q, h1, h2, _⟩ => by
  simp only [List.map_cons, List.cons.injEq] at hs
  obtain ⟨x, hx1, hx2⟩ := rep_of_trod hS hs.1 (hok 0 t v rfl rfl) h1
  obtain ⟨xs, k1, k2, k3⟩ := reps_of_trodAll hS hs.2 (fun j t v ht hv => hok (j + 1) t v (by simpa using ht) (by simpa using hv)) h2
  refine ⟨x :: xs, ⟨hx1, k1⟩, by simp [k2], fun j c u hc hu => ?_⟩
  cases j with
  | zero => simp only [List.getElem?_cons_zero, Option.some.injEq] at hc hu; subst hc; subst hu; exact hx2
  | succ j => simp only [List.getElem?_cons_succ] at hc hu; exact k3 j c u hc hu
 | [], s :: shs, _, _, _, hs, _, _ => by simp at hs
 | t :: ts, [], _, _, _, hs, _, _ => by simp at hs
 | [], [], v :: vs, _, _, _, _, h => by cases h
 | [], [], [], d :: ds, _, _, _, h => by cases h
 | t :: ts, s :: shs, [], _, _, _, _, h => by cases h
 | t :: ts, s :: shs, v :: vs, [], _, _, _, h => by cases h

theorem post_of_below {f : Func} {s : ChangeSpec} {apart fresh handsOn again : Bool} {W W' : World} {args : Array Value} {v : Value} {ds gs : List (DataW H)} {before pa pv : List MemPlace}
 (hW : DataW.Whole enc P f.params.toList s.vars apart W args.toList ds gs before)
 (hres : ∀ (b : Nat) (sp : Nat → Bool) (hd : Bool), DataW.TrodAll enc P W' b sp hd f.resultTypes.toList (v.resultList f.resultTypes.size) (s.fn H (ds ++ gs)).results [])
 (hargs : ∀ sp : Nat → Bool, (∀ p ∈ before, sp p.block = true) → DataW.TrodAll enc P W' 0 sp true f.params.toList args.toList (s.fn H (ds ++ gs)).args pa)
 (hvars : ∀ sp : Nat → Bool, (∀ p ∈ before, sp p.block = true) → DataW.TrodVars enc P W' sp s.vars (s.fn H (ds ++ gs)).vars pv)
 (hps : before = pa ++ pv) (hb : Below W.heap.size W W')
 (hok : ∀ (j : Nat) (t : TypeId) (r : Value), f.resultTypes[j]? = some t → (v.resultList f.resultTypes.size)[j]? = some r → Value.okWide P W' .any 0 t r) :
 s.post enc P f apart fresh handsOn again W args v W' := by
 have hlt : ∀ p ∈ before, p.block < W.heap.size := fun p hp => hW.lt p hp
 have hold : ∀ p ∈ before, (fun b => decide (b < W.heap.size)) p.block = true := fun p hp => by simpa using hlt p hp
 refine ⟨ds, gs, before, [], pa, pv, hW, hres _ _ _, hargs _ hold, hvars _ hold, World.keptBut_mono (fun p hp => ⟨hp, ?_⟩) (hb.frame (· ∈ before)), fun _ => ?_⟩
 ·rw [hps, List.mem_append] at hp
  exact Or.inr hp
 ·obtain ⟨_, _, _, _, _, hz, hn⟩ := hW
  refine ⟨hok, _, _, ([] ++ pa) ++ pv, ⟨[] ++ pa, pv, trodAll_append (hargs _ (fun _ _ => rfl)) (hres _ _ _), hvars _ (fun _ _ => rfl), rfl, ?_, ?_⟩, ?_⟩
  ·intro b off hp
   have hin : MemPlace.cell b off ∈ before := by rw [hps]; simpa using hp
   rw [hb.frozen (hlt _ hin)]
   exact hz b off hin
  ·intro ha
   have := hn ha
   rw [hps] at this
   simpa using this
  ·intro p hp _
   rw [hps]
   simpa using hp

theorem trodAll_len : ∀ {ts : List TypeId} {vs : List Value} {ds : List (DataW H)} {ps : List MemPlace}, DataW.TrodAll enc P w base spare held ts vs ds ps → ds.length = ts.length
 | [], [], [], _, _ => rfl
 | _ :: ts, _ :: vs, _ :: ds, _, ⟨_, _, _, h, _⟩ => by simp [trodAll_len h]
 | [], v :: vs, _, _, h => by cases h
 | [], [], d :: ds, _, h => by cases h
 | t :: ts, [], _, _, h => by cases h
 | t :: ts, v :: vs, [], _, h => by cases h
theorem trodAll_stays (hl : laidOutB P = true) {W W' : World} {sp' : Nat → Bool} : ∀ {ts : List TypeId} {vs : List Value} {ds : List (DataW H)} {ps : List MemPlace}, (∀ t ∈ ts, P.readableRec t = true ∧ t < P.types.size) →
 DataW.TrodAll enc P W base (fun _ => true) true ts vs ds ps → (∀ p ∈ ps, W.sameAt W' p) → (∀ p ∈ ps, sp' p.block = true) → DataW.TrodAll enc P W' base sp' true ts vs ds ps
 | [], [], [], ps, _, h, _, _ => h
 | t :: ts, v :: vs, d :: ds, ps, ht, ⟨p, q, h1, h2, e⟩, hs, hp => by
  subst e
  refine ⟨p, q, WideElems.Trod_stays hl (ht t (List.mem_cons_self ..)).1 (ht t (List.mem_cons_self ..)).2 h1 (fun x hx => hs x (List.mem_append_left _ hx)) (fun x hx => hp x (List.mem_append_left _ hx)),
   trodAll_stays hl (fun t h => ht t (List.mem_cons_of_mem _ h)) h2 (fun x hx => hs x (List.mem_append_right _ hx)) (fun x hx => hp x (List.mem_append_right _ hx)), rfl⟩
 | [], v :: vs, _, _, _, h, _, _ => by cases h
 | [], [], d :: ds, _, _, h, _, _ => by cases h
 | t :: ts, [], _, _, _, h, _, _ => by cases h
 | t :: ts, v :: vs, [], _, _, h, _, _ => by cases h

theorem law_of_ev (hS : TysOk P S) (hl : laidOutB P = true) {f : FuncId} {fn : Func} {s : ChangeSpec} {tb : TypeId} (n : Nat) (shs : List (Bool × List Cs)) (hsh : fn.params.toList.map (shp S n) = shs.map some)
 (hpr : (fn.params.toList.all fun t => P.readableRec t && decide (t < P.types.size)) = true) (hv : s.vars = []) (hrt : fn.resultTypes = #[tb]) (hb : P.underlying tb = some .bool)
 (hfn : ∀ ds : List (DataW H), ds.length = fn.params.toList.length → s.fn H ds = ⟨[.lit (.bool true)], ds, []⟩)
 (hev : ∀ xs, TyVs shs xs → Ev P f xs (.bool true)) {apart fresh handsOn again : Bool} (W : World) (base : Nat) (args : Array Value) (ds gs : List (DataW H)) (before : List MemPlace)
 (hval : ∀ (j : Nat) t v, fn.params[j]? = some t → args[j]? = some v → Value.okWide P W .any base t v)
 (hW : DataW.Whole enc P fn.params.toList s.vars apart W args.toList ds gs before) (hgl : GOk W.heap.size W) :
 Calls P f args W fun e W' => ∃ v, e = .returned v ∧ s.post enc P fn apart fresh handsOn again W args v W' := by
 have hW' := hW
 obtain ⟨p, q, hA, hV, rfl, hfz, hnd⟩ := hW
 rw [hv] at hV
 obtain ⟨rfl, rfl⟩ := trodVars_none hV
 obtain ⟨xs, h1, h2, h3⟩ := reps_of_trodAll hS hsh (fun j t v ht hv => hval j t v (by simpa using ht) (by simpa using hv)) hA
 have hlen := trodAll_len hA
 have hlt : ∀ x ∈ p, x.block < W.heap.size := fun x hx => hW'.lt x (by simpa using hx)
 obtain ⟨-, hev⟩ := hev xs h1
 refine (hev W (Old W) args hgl (fun g o h => h) (by simpa using h2) fun j c v hc hv => h3 j c v hc (by simpa using hv)).mono fun e W' he => ?_
 obtain ⟨v, A', rfl, hrep, hbel, -⟩ := he
 cases hrep
 refine ⟨_, rfl, post_of_below (pa := p) (pv := []) hW' ?_ ?_ ?_ (by simp) hbel.toBelow (ok_one hrt rfl (okWide_bool_mk hb true))⟩
 ·intro b sp hd
  rw [List.append_nil, hfn ds (by simpa using hlen), hrt]
  exact trodAll_mk1 (shut_bool hb true)
 ·intro sp hsp
  rw [List.append_nil, hfn ds (by simpa using hlen)]
  refine trodAll_stays hl (fun t ht => ?_) hA (fun x hx => hbel.same (hlt x hx)) (fun x hx => hsp x (by simpa using hx))
  have := List.all_eq_true.1 hpr t ht
  simpa using this
 ·intro sp hsp
  rw [List.append_nil, hfn ds (by simpa using hlen), hv]
  exact rfl
end
end Go.Vm
end
