/- Texts TwF DpI DmA DmB DmC DmD DpK DpL DpM DpN DpO DmE DmF DmG DmH DmI, joined; what is not needed is left out. -/
import Derived.Test.YtnnknecjjfjolaaProg
import Derived.Test.YtnnknecjjfjolaaMgH
import Derived.Test.YtnnknecjjfjolaaMgI
import Derived.BigFrame
import Derived.Test.YtnnknecjjfjolaaMcd
section
namespace Go.Proofs.Try
open Go Go.Vm
set_option maxRecDepth 20000
set_option maxHeartbeats 2000000
open Classical in
noncomputable def eqB {α : Type} (a b : α) : Bool := decide (a = b)
theorem eqB_of {α : Type} {a b : α} (h : a = b) : eqB a b = true := by simp [eqB, h]
theorem eqB_ne {α : Type} {a b : α} (h : a ≠ b) : eqB a b = false := by simp [eqB, h]
theorem take_succ_eq {α : Type} {a b : List α} {i : Nat} {x : α} (ha : a[i]? = some x) (hb : b[i]? = some x) (h : a.take i = b.take i) : a.take (i + 1) = b.take (i + 1) := by
 rw [List.take_add_one, List.take_add_one, h, ha, hb]
theorem eq_of_take {α : Type} {a b : List α} {i : Nat} (h : a.take i = b.take i) (ha : a.length ≤ i) (hb : b.length ≤ i) : a = b := by
 rwa [List.take_of_length_le ha, List.take_of_length_le hb] at h
end Go.Proofs.Try
end

section
namespace Go.Proofs.Try
open Go Go.Vm
set_option maxRecDepth 20000
set_option maxHeartbeats 4000000
def newY (p : List Pt) (b : List Bk) : Yd := ⟨p, b, [], b.map fun _ => 0⟩
end Go.Proofs.Try
end

section
namespace Go.Proofs.Try
open Go Go.Vm
set_option maxRecDepth 20000
set_option maxHeartbeats 4000000
theorem xv_clonedP0 : EvX Try.prog 39 [.d (.sl 6 [])] [] (.nil 6) [] := by
 refine evx_of_awp tysOk mixed (fn := Try.f39) Try.func39 rfl rfl rfl ?_
 conv => whnf
 repeat' (first|((refine Split.is_true rfl ?_);conv=>whnf)|((with_reducible first|refine Split.of_true ?_|refine Split.of_false ?_);conv=>whnf)|(with_reducible refine Split.neg ?_)|((with_reducible refine Split.is_true ?_ ?_);decide;conv=>whnf)|((with_reducible refine Split.is_false ?_ ?_);decide;conv=>whnf)|((with_reducible refine Split.nez (fun _=>?_) (fun _=>?_))<;>conv=>whnf)|((with_reducible refine Split.eqz (fun _=>?_) (fun _=>?_))<;>conv=>whnf)|(with_reducible refine Split.and ?_)|(with_reducible refine Split.or ?_)|((with_reducible refine Split.streq (fun _=>?_) (fun _=>?_))<;>conv=>whnf)|((with_reducible refine Split.dec (fun _=>?_) (fun _=>?_))<;>conv=>whnf)|((with_reducible refine Split.mk (fun _=>?_) (fun _=>?_))<;>conv=>whnf)|((with_reducible refine NilK.mk (fun _=>?_) ?_)<;>conv=>whnf)|((with_reducible refine AltK.l ?_);(conv=>whnf);(with_reducible refine Need.mk ?_ ?_);(first|omega|(refine ⟨?_,?_⟩<;>simp<;>omega)|(simp;omega));conv=>whnf)|((with_reducible refine Need.mk ?_ ?_);(first|omega|rfl|decide|(refine ⟨?_,?_⟩<;>simp<;>omega)|(simp;omega));conv=>whnf)|((with_reducible refine Wr.quo ?_ ?_ ?_ ?_);omega;omega;omega;conv=>whnf)|((with_reducible refine Wr.inr ?_ ?_);(first|omega|(simp;omega));conv=>whnf)|((with_reducible refine Wr.inu ?_ ?_);omega;conv=>whnf)|(exfalso;first|omega|contradiction)|fail)
 exact ⟨⟨[], (by refine ⟨?_, ?_, rfl⟩<;>(repeat' (first|exact True.intro|exact rfl|(refine ⟨?_,?_⟩)|(intro h;cases h;done)|(intro h;exact h)|exact map_snoc|(refine own_congr ?_;simp;done)|(refine int_congr ?_;(first|omega|(simp;omega)))|(simp;done)|fail));done)⟩, rfl⟩
theorem cloned_call (l : List Int) (hn : l.length ≤ 100000) {w : World} {A : Sta} {v : Value} (hA : ∀ g o, A g o → g < w.heap.size) (hv : Rep w A (.sl 1 (l.map iD)) v) :
 Calls Try.prog 41 #[v] w fun e w' => ∃ u, e = .returned u ∧ ClsOk l.length u (obAt w' u) ∧ (∀ g, u.ownBlock = some g → w.heap.size ≤ g ∧ g < w'.heap.size) ∧ Vm.oneV u = true ∧ BelowD w w' := by
 refine ((xv_clonedI l hn).run w.heap.size w A lay0 #[v] (Nat.le_refl _) hA rfl (fun j c u hc hu => ?_) (fun j c b hc hb => ?_) ⟨fun b x h => (by cases h), fun b x g h => (by cases h), fun b b' x x' g h => (by cases h), fun b x b' h => (by cases h)⟩).mono ?_
 ·match j with
  | 0 => cases hc; cases hu; exact .d hv
  | j + 1 => simp at hc
 ·match j with
  | 0 => cases hc; cases hb
  | j + 1 => simp at hc
 ·rintro e w' ⟨u, A', L', rfl, hr, p1, p2, p3, p4, p5, -, -, -, -, p10, p11, -, -⟩
  have hbel : BelowD w w' := ⟨⟨p1, p2.1, p3, p4, fun k hk => p5 k hk (by rintro ⟨b, x, h, _⟩; cases h)⟩, p2.2⟩
  obtain ⟨xs, hrow, -, -, h4, -⟩ := p10.br 9 _ rfl
  have hu : u = L'.hd 9 := by cases hr; rfl
  have hone : Vm.oneV u = true := hr.oneV rfl
  rw [List.length_map] at hrow
  refine ⟨u, rfl, ?_, fun g hg => ?_, hone, hbel⟩
  ·rw [hu]
   rcases hrow.2 with ⟨h, h0⟩ | ⟨g, cap, cur, h, hb, hh, hc, -, hcs, -⟩
   ·rw [h]; exact ⟨none, 0, by rw [h0], .inl h0⟩
   ·rw [h]
    exact ⟨_, cap, rfl, .inr ⟨g, cur, rfl, hc, by simp only [obAt, Value.ownBlock]; exact hh, by omega⟩⟩
  ·rw [hu] at hg
   exact ownsRow_lt hrow hg
end Go.Proofs.Try
end

section
namespace Go.Proofs.Try
open Go Go.Vm
set_option maxRecDepth 20000
set_option maxHeartbeats 4000000
theorem list38 {α : Type} : ∀ (l : List α), l.length = 38 → ∃ x0 x1 x2 x3 x4 x5 x6 x7 x8 x9 x10 x11 x12 x13 x14 x15 x16 x17 x18 x19 x20 x21 x22 x23 x24 x25 x26 x27 x28 x29 x30 x31 x32 x33 x34 x35 x36 x37, l = x0 :: x1 :: x2 :: x3 :: x4 :: x5 :: x6 :: x7 :: x8 :: x9 :: x10 :: x11 :: x12 :: x13 :: x14 :: x15 :: x16 :: x17 :: x18 :: x19 :: x20 :: x21 :: x22 :: x23 :: x24 :: x25 :: x26 :: x27 :: x28 :: x29 :: x30 :: x31 :: x32 :: x33 :: x34 :: x35 :: x36 :: x37 :: []
 | x0 :: x1 :: x2 :: x3 :: x4 :: x5 :: x6 :: x7 :: x8 :: x9 :: x10 :: x11 :: x12 :: x13 :: x14 :: x15 :: x16 :: x17 :: x18 :: x19 :: x20 :: x21 :: x22 :: x23 :: x24 :: x25 :: x26 :: x27 :: x28 :: x29 :: x30 :: x31 :: x32 :: x33 :: x34 :: x35 :: x36 :: x37 :: [], _ => ⟨x0, x1, x2, x3, x4, x5, x6, x7, x8, x9, x10, x11, x12, x13, x14, x15, x16, x17, x18, x19, x20, x21, x22, x23, x24, x25, x26, x27, x28, x29, x30, x31, x32, x33, x34, x35, x36, x37, rfl⟩
def natV : Value → Nat
 | .int _ n => n.toNat
 | _ => 0
def lensOf (y : Yd) : List Nat := y.pits.map fun p => p.cls.length
def cpLay (L : Lay) (C : Array Value) : Lay := { L with sub := fun b v i => if b = 7 ∧ v = L.top 7 + 1 then (C[i * 6 + 4]?).getD undef else L.sub b v i, top := upd L.top 7 (L.top 7 + 1) }
theorem cpLay_eq {L : Lay} {C : Array Value} {b : Nat} : (cpLay L C).eqAt L b := by
 refine ⟨rfl, rfl, ?_, fun v hv i => ?_⟩
 ·show L.top b ≤ upd L.top 7 (L.top 7 + 1) b
  by_cases e : b = 7
  ·subst e; rw [upd_same]; omega
  ·rw [upd_ne _ _ e]; exact Nat.le_refl _
 ·refine if_neg ?_
  rintro ⟨rfl, rfl⟩
  omega
theorem cpLay_top {L : Lay} {C : Array Value} {b : Nat} (h : b ≠ 7) : (cpLay L C).top b = L.top b := upd_ne _ _ h
theorem cpLay_top7 {L : Lay} {C : Array Value} : (cpLay L C).top 7 = L.top 7 + 1 := upd_same L.top 7 (L.top 7 + 1)
theorem CpAt.inv {y : Yd} {e : Ent} {A0 A2 : Sta} {N : Nat} {L : Lay} {T : Nat → AV} {B : Nat → Option Bx} {a : Act} {w2 W : World} {g cap : Nat} {cur : Array Value} {es : List D} (hI : Inv e A0 N L A2 T B a w2) (hB7 : B 7 = some (.row 34 6 es false))
 (hh7 : L.hd 7 = .slice (some ⟨g, 0, none⟩) y.pits.length cap) (hcap : y.pits.length ≤ cap) (hcs : cur.size = cap * 6) (hJ : CpAt y w2 g cur y.pits.length W) :
 ∃ v L', Inv e A0 N L' A2 T (upd B 7 (some (.shp v y.pits.length (PitShape (lensOf y))))) a W := by
 obtain ⟨C, j1, j2, j3, j4⟩ := hJ.row
 refine ⟨L.top 7 + 1, cpLay L C, ?_⟩
 have hown : own L 7 (.row 34 6 es false) g := by
  show (L.hd 7).ownBlock = some g
  rw [hh7]; rfl
 obtain ⟨xs, -, -, -, hr4, hr5⟩ := hI.bxs 7 _ hB7
 have hg7 : g = L.ι 7 := hr4 g hown
 have hnoA : ∀ o, ¬ A2 g o := fun o ho => by
  have := (hr5 (by rw [hh7]; intro h; cases h) o (by rw [← hg7]; exact ho)).1
  cases this
 have hgl := (hI.lo 7 _ g hB7 hown)
 have hsub : ∀ i, (cpLay L C).sub 7 (L.top 7 + 1) i = (C[i * 6 + 4]?).getD undef := fun i => if_pos ⟨rfl, rfl⟩
 have hin : ∀ i, i < y.pits.length → ∃ p v, y.pits[i]? = some p ∧ C[i * 6 + 4]? = some v ∧ ClsOk p.cls.length v (obAt W v) ∧ ∀ k, v.ownBlock = some k → w2.heap.size ≤ k ∧ k < W.heap.size := fun i hi => by
  obtain ⟨v, h1, h2, h3⟩ := j4 i y.pits[i] hi (List.getElem?_eq_getElem hi)
  exact ⟨_, v, List.getElem?_eq_getElem hi, h1, h2, h3⟩
 refine hI.turns (fun b => b = 7) (fun k => k = g ∨ (w2.heap.size ≤ k ∧ k < W.heap.size)) hJ.os hJ.tape hJ.out hJ.size (fun k hk => ?_) (fun k b x hk hb hx ho => ?_) (fun k hk hk' => hJ.same k hk fun e => hk' (.inl e)) (fun q o hq => ?_) (fun _ _ h => h)
  (fun q o hq => Nat.lt_of_lt_of_le (hI.Aok q o hq) hJ.size) (fun _ _ h => .inl h) (fun b _ => cpLay_eq) (fun b hb _ => cpLay_top hb) (fun b hb => upd_ne _ _ hb) (fun b hb => ?_) (fun b _ hb => ?_) (fun b x hb hx => ?_) (fun b b' x x' k hb hb' _ _ _ _ => hb.trans hb'.symm) (fun b x b' hb hx hm => ?_)
 ·rcases hk with rfl | hk
  ·exact ⟨hgl.1, Nat.lt_of_lt_of_le hgl.2 hJ.size⟩
  ·exact ⟨.inl (Nat.le_trans hI.below.size hk.1), hk.2⟩
 ·rcases hk with rfl | hk
  ·exact hb (hI.inj b 7 x _ _ hx hB7 ho hown)
  ·have := (hI.lo b x k hx ho).2; omega
 ·exact World.cell?_of_block (w := w2) (hJ.same q (hI.Aok q o hq) fun e => hnoA o (e ▸ hq))
 ·by_cases e : b = 7
  ·subst e; rw [upd_same]; simp
  ·rwa [upd_ne _ _ e]
 ·by_cases e : b = 7
  ·subst e; rw [hB7]; simp
  ·rwa [upd_ne _ _ e] at hb
 ·subst hb
  rw [upd_same] at hx; cases hx
  have hblk : ∀ k, own (cpLay L C) 7 (.shp (L.top 7 + 1) y.pits.length (PitShape (lensOf y))) k → k = g ∨ (w2.heap.size ≤ k ∧ k < W.heap.size) := by
   rintro k (hk | ⟨i, hi, hk⟩)
   ·rw [show (cpLay L C).hd 7 = L.hd 7 from rfl, hh7] at hk
    cases hk; exact .inl rfl
   ·obtain ⟨p, v, -, h2, -, h4⟩ := hin i hi
    rw [hsub, h2] at hk
    exact .inr (h4 k hk)
  refine ⟨⟨cpLay_top7.symm, ?_, fun k hk o ho => ?_⟩, hblk⟩
  ·have e1 : (cpLay L C).hd 7 = .slice (some ⟨g, 0, none⟩) y.pits.length cap := hh7
   have hll : (lensOf y).length = y.pits.length := List.length_map _
   rw [e1]
   refine ⟨some ⟨g, 0, none⟩, cap, by rw [hll], .inr ⟨g, C, rfl, by rw [hll]; exact hcap, by simp only [obAt, Value.ownBlock]; exact j1, by rw [hll, j2, hcs]; exact Nat.mul_le_mul_right _ hcap, fun i m hm => ?_⟩⟩
   have hi : i < y.pits.length := by rw [← hll]; exact lt_of_get hm
   obtain ⟨p, v, h1, h2, h3, -⟩ := hin i hi
   have em : m = p.cls.length := by
    rw [lensOf, List.getElem?_map, h1] at hm; cases hm; rfl
   subst em
   have e2 : (cpLay L C).sub 7 (L.top 7 + 1) i = v := by
    rw [hsub, h2]; rfl
   simp only [hi, if_true, e2]
   exact ⟨h2, h3⟩
  ·rcases hblk k hk with rfl | hk
   ·exact hnoA o ho
   ·have := hI.Aok k o ho; omega
 ·subst hb
  rw [upd_same] at hx; cases hx; cases hm
def cpSt (y : Yd) : St := ⟨[(3, .ptr 3 0), (2, .ptr 2 0)], [(3, .var [.own 7 6 (y.pits.map ptD).length, .own 10 3 (y.bulk.map bkD).length, .own 13 3 (y.deps.map dpD).length, .own 16 1 (y.carry.map iD).length] false),
 (2, .var [.junk, .junk, .junk, .junk] false), (7, .row 34 6 (y.pits.map ptD) false), (10, .row 45 3 (y.bulk.map bkD) false), (13, .row 47 3 (y.deps.map dpD) false), (16, .row 3 1 (y.carry.map iD) false)]⟩
theorem lk_shp {bx : List (Nat × Bx)} {x : Bx} {b : Nat} {r : List (Nat × Bx)} : ∀ {p : List (Nat × Bx)}, bx = p ++ (b, x) :: r → (∀ c y, (c, y) ∈ p → Nat.beq c b = false) → ∀ z, lk (p ++ (b, z) :: r) = upd (lk bx) b (some z)
 | [], h, _, z => by
  subst h
  funext c
  simp only [List.nil_append, lk, upd]
  cases hc : Nat.beq b c with
  | true => rw [if_pos (Nat.eq_of_beq_eq_true hc).symm]
  | false =>
   rw [if_neg]
   rintro rfl
   rw [Nat.beq_refl] at hc; cases hc
 |(k, y) :: p, h, hp, z => by
  subst h
  have ih := lk_shp (bx := p ++ (b, x) :: r) rfl (fun c y' hc => hp c y' (List.mem_cons_of_mem _ hc)) z
  have hk := hp k y List.mem_cons_self
  funext c
  simp only [List.cons_append, lk, upd]
  cases hc : Nat.beq k c with
  | true =>
   have e := Nat.eq_of_beq_eq_true hc
   rw [if_neg]
   rintro rfl
   rw [e, Nat.beq_refl] at hk; cases hk
  | false => rw [ih]; rfl
theorem cpSt_junk {y : Yd} {t : Nat} (e : ¬ t = 3) (e' : ¬ t = 2) : St.get (cpSt y) t = .junk := by
 have h : lk (cpSt y).T t = none := by
  show lk [((3 : Nat), AV.ptr 3 0), (2, AV.ptr 2 0)] t = none
  rw [lk_cons, if_neg e, lk_cons, if_neg e']
  rfl
 unfold St.get
 rw [h]
def cpSt2 (y : Yd) (v : Nat) : St := ⟨(cpSt y).T, [(3, .var [.own 7 6 (y.pits.map ptD).length, .own 10 3 (y.bulk.map bkD).length, .own 13 3 (y.deps.map dpD).length, .own 16 1 (y.carry.map iD).length] false),
 (2, .var [.junk, .junk, .junk, .junk] false), (7, .shp v y.pits.length (PitShape (lensOf y))), (10, .row 45 3 (y.bulk.map bkD) false), (13, .row 47 3 (y.deps.map dpD) false), (16, .row 3 1 (y.carry.map iD) false)]⟩
theorem cp_rel {y : Yd} {e : Ent} {A0 A2 : Sta} {L : Lay} {a : Act} {w2 W : World} {g cap : Nat} {cur : Array Value} (hI : Inv e A0 38 L A2 (St.get (cpSt y)) (lk (cpSt y).bx) a w2)
 (hh7 : L.hd 7 = .slice (some ⟨g, 0, none⟩) y.pits.length cap) (hcap : y.pits.length ≤ cap) (hcs : cur.size = cap * 6) (hJ : CpAt y w2 g cur y.pits.length W) : ∃ v, Rel e A0 38 (cpSt2 y v) a W := by
 obtain ⟨vv, L', hI'⟩ := CpAt.inv hI rfl hh7 hcap hcs hJ
 refine ⟨vv, L', A2, ?_⟩
 have hb : lk (cpSt2 y vv).bx = upd (lk (cpSt y).bx) 7 (some (Bx.shp vv y.pits.length (PitShape (lensOf y)))) :=
  lk_shp (p := [(3, .var [.own 7 6 (y.pits.map ptD).length, .own 10 3 (y.bulk.map bkD).length, .own 13 3 (y.deps.map dpD).length, .own 16 1 (y.carry.map iD).length] false), (2, .var [.junk, .junk, .junk, .junk] false)]) rfl (fun c z h => by
   rcases List.mem_cons.1 h with h | h
   ·cases h; rfl
   ·rcases List.mem_cons.1 h with h | h
    ·cases h; rfl
    ·cases h) _
 show Inv e A0 38 L' A2 (St.get (cpSt y)) (lk (cpSt2 y vv).bx) a W
 rw [hb]
 exact hI'
theorem wp_gen {P : Program} {c : Code} {Q : Exit → Act → World → Prop} {tm : Array Value} {w : World} {N t1 t2 : Nat} {v1 v2 : Value} (h : ∀ wz : Array Value, wz.size = N → wz.getD t1 undef = v1 → wz.getD t2 undef = v2 → c.wp P Q { tmps := wz, defers := [] } w)
 (h1 : tm.size = N) (h2 : tm.getD t1 undef = v1) (h3 : tm.getD t2 undef = v2) : c.wp P Q { tmps := tm, defers := [] } w := h tm h1 h2 h3
theorem xv_copiedS (y : Yd) (h1 : y.pits.length ≤ 1000) (h2 : y.bulk.length ≤ 1000) (h3 : y.deps.length ≤ 1000) (h4 : y.carry.length ≤ 1000) (hcl : ∀ p ∈ y.pits, p.cls.length ≤ 100000) (hne : y.pits.length ≠ 0) :
 EvX Try.prog 19 [.d (ydD y)] [] (.agg [.own 9 6 y.pits.length, .own 2009 3 (y.bulk.map bkD).length, .own 4009 3 (y.deps.map dpD).length, .own 6009 1 (y.carry.map iD).length])
  [(9, .shp 0 y.pits.length (PitShape (lensOf y))), (2009, .row 45 3 (y.bulk.map bkD) false), (4009, .row 47 3 (y.deps.map dpD) false), (6009, .row 3 1 (y.carry.map iD) false)] := by
 refine ⟨⟨_, Try.func19, rfl, rfl⟩, fun B0 w A L0 vals hB0 hA hvl hvr _ _ => ?_⟩
 obtain ⟨v, rfl⟩ : ∃ v, vals = #[v] := by
  obtain ⟨vl⟩ := vals
  match vl, hvl with
  | [a], _ => exact ⟨a, rfl⟩
 have hv : Rep w A (ydD y) v := by have := hvr 0 _ v rfl rfl; cases this; assumption
 have hlp : (y.pits.map ptD).length = y.pits.length := List.length_map _
 have c1 := EvX.new1 (xs := [.sl 6 (y.pits.map ptD)]) (xv_clonedP y.pits (by omega)) 7
 have c2 := EvX.new1 (xs := [.sl 3 (y.bulk.map bkD)]) (xv_clonedB y.bulk (by omega)) 10
 have c3 := EvX.new1 (xs := [.sl 3 (y.deps.map dpD)]) (xv_clonedD y.deps (by omega)) 13
 have c4 := EvX.new1 (xs := [.sl 1 (y.carry.map iD)]) (xv_clonedI y.carry (by omega)) 16
 refine calls_of_wp Try.func19 rfl ?_
 refine wp_piece (K := fun σ1 => awp Try.prog Try.S 38 _ (onlyN fun σ => Le σ (cpSt y) []) σ1) tysOk mixed ?_ (start_rel hB0 (args := [ydD y]) (Nat.le_of_ble_eq_true rfl) hA rfl (fun j c u hc hu => by
  match j with
  | 0 => cases hc; cases hu; exact hv
  | j + 1 => simp at hc)) fun σ1 a1 w1 hr1 hk1 => wp_piece tysOk mixed hk1 hr1 fun σ2 a2 w2 hr2 hk2 => ?_
 ·conv => whnf
  repeat' (first|((with_reducible first|refine Split.of_true ?_|refine Split.of_false ?_);conv=>whnf)|(with_reducible refine Split.neg ?_)|((with_reducible refine Split.is_true ?_ ?_);decide;conv=>whnf)|((with_reducible refine Split.is_false ?_ ?_);decide;conv=>whnf)|((with_reducible refine Split.nez (fun _=>?_) (fun _=>?_))<;>conv=>whnf)|((with_reducible refine Split.eqz (fun _=>?_) (fun _=>?_))<;>conv=>whnf)|(with_reducible refine Split.and ?_)|(with_reducible refine Split.or ?_)|((with_reducible refine Split.streq (fun _=>?_) (fun _=>?_))<;>conv=>whnf)|((with_reducible refine Split.dec (fun _=>?_) (fun _=>?_))<;>conv=>whnf)|((with_reducible refine Split.mk (fun _=>?_) (fun _=>?_))<;>conv=>whnf)|((with_reducible refine NilK.mk (fun _=>?_) ?_)<;>conv=>whnf)|((with_reducible refine AltK.l ?_);(conv=>whnf);(with_reducible refine Need.mk ?_ ?_);(first|omega|(refine ⟨?_,?_⟩<;>simp<;>omega)|(simp;omega));conv=>whnf)|((with_reducible refine Need.mk ?_ ?_);(first|omega|rfl|decide|(refine ⟨?_,?_⟩<;>simp<;>omega)|(simp;omega));conv=>whnf)|((with_reducible refine Wr.quo ?_ ?_ ?_ ?_);omega;omega;omega;conv=>whnf)|((with_reducible refine Wr.inr ?_ ?_);(first|omega|(simp;omega));conv=>whnf)|((with_reducible refine Wr.inu ?_ ?_);omega;conv=>whnf)|((with_reducible refine AltK.r ?_);(conv=>whnf);(first|(refine CallX.mk _ _ (c1) rfl ?_)|(refine CallX.mk _ _ (c2) rfl ?_)|(refine CallX.mk _ _ (c3) rfl ?_)|(refine CallX.mk _ _ (c4) rfl ?_));conv=>whnf)|(exfalso;first|omega|contradiction)|fail)
  exact (by refine ⟨?_, ?_, rfl⟩<;>(repeat' (first|exact True.intro|exact rfl|(refine ⟨?_,?_⟩)|(intro h;cases h;done)|(intro h;exact h)|exact map_snoc|(refine own_congr ?_;simp;done)|(refine int_congr ?_;(first|omega|(simp;omega)))|(simp;done)|((first|refine own_congr ?_|refine int_congr ?_|skip);simp [cpSt];done)|((first|refine own_congr ?_|refine int_congr ?_);simp [cpSt];omega)|(show @Eq (List Go.Vm.D) _ [];simp [cpSt];done)|(simp [D.cells,cpSt];done)|fail));done)
 ·have hr3 := le_sound hk2 hr2
  obtain ⟨L, A2, hI⟩ := hr3
  obtain ⟨tm, df⟩ := a2
  obtain rfl : df = [] := hI.df
  obtain ⟨tl, rfl⟩ : ∃ tl : List Value, tm = tl.toArray := ⟨tm.toList, by simp⟩
  have hsz : tl.length = 38 := by have := hI.size; simpa using this
  obtain ⟨x0, x1, x2, x3, x4, x5, x6, x7, x8, x9, x10, x11, x12, x13, x14, x15, x16, x17, x18, x19, x20, x21, x22, x23, x24, x25, x26, x27, x28, x29, x30, x31, x32, x33, x34, x35, x36, x37, rfl⟩ := list38 tl hsz
  obtain rfl : x3 = .pointer (some ⟨L.ι 3, 0, none⟩) := by have := hI.tm 3; cases this; rfl
  obtain rfl : x2 = .pointer (some ⟨L.ι 2, 0, none⟩) := by have := hI.tm 2; cases this; rfl
  obtain ⟨C3, t3, b31, b32, b33, -⟩ := hI.bxs 3 _ rfl
  obtain ⟨C2, t2, b21, b22, -, -⟩ := hI.bxs 2 _ rfl
  obtain ⟨cl2⟩ := C2
  match cl2, b22, b21 with
  | [d0, d1, d2, d3], _, b21 =>
  obtain ⟨cl3⟩ := C3
  match cl3, b32, b31, b33 with
  | [h7, h10, h13, h16], _, b31, b33 =>
  obtain rfl : h7 = L.hd 7 := by have := b33 0 _ h7 rfl rfl; cases this; rfl
  obtain rfl : h10 = L.hd 10 := by have := b33 1 _ h10 rfl rfl; cases this; rfl
  obtain rfl : h13 = L.hd 13 := by have := b33 2 _ h13 rfl rfl; cases this; rfl
  obtain rfl : h16 = L.hd 16 := by have := b33 3 _ h16 rfl rfl; cases this; rfl
  have hc0 : w2.cell? ⟨L.ι 3, 0, none⟩ = some (L.hd 7) := by simp [World.cell?, b31]
  have hc1 : w2.cell? ⟨L.ι 3, 1, none⟩ = some (L.hd 10) := by simp [World.cell?, b31]
  have hc2 : w2.cell? ⟨L.ι 3, 2, none⟩ = some (L.hd 13) := by simp [World.cell?, b31]
  have hc3 : w2.cell? ⟨L.ι 3, 3, none⟩ = some (L.hd 16) := by simp [World.cell?, b31]
  obtain ⟨xs, hrow, hr2, hr3, hr4, hr5⟩ := hI.bxs 7 _ rfl
  rw [hlp] at hrow
  obtain ⟨g, cap, cur, hh7, hgb, hgh, hgc, hgm, hgs, hgt⟩ : ∃ g cap cur, L.hd 7 = .slice (some ⟨g, 0, none⟩) y.pits.length cap ∧ B0 ≤ g ∧ w2.heap[g]? = some (.cells cur 34 (0, 0)) ∧ y.pits.length ≤ cap ∧ cap ≤ maxLen ∧ cur.size = cap * 6 ∧ cur.toList.take (y.pits.length * 6) = xs := by
   rcases hrow.2 with ⟨_, h0⟩ | h
   ·exact absurd h0 hne
   ·exact h
  rw [hh7] at hc0
  refine wp_seq_h fun KK hKK => ?_
  go_wp2
  have h3g : L.ι 3 ≠ g := fun e => by
   have := hI.inj 3 7 _ _ g rfl rfl e.symm (by rw [show own L 7 (.row 34 6 (y.pits.map ptD) false) g = ((L.hd 7).ownBlock = some g) from rfl, hh7]; rfl)
   cases this
  have h2l : L.ι 2 < w2.heap.size := (hI.lo 2 _ _ rfl rfl).2
  have h2g : L.ι 2 ≠ g := fun e => by
   have := hI.inj 2 7 _ _ g rfl rfl e.symm (by rw [show own L 7 (.row 34 6 (y.pits.map ptD) false) g = ((L.hd 7).ownBlock = some g) from rfl, hh7]; rfl)
   cases this
  have h3l : L.ι 3 < w2.heap.size := (hI.lo 3 _ _ rfl rfl).2
  have hgl : g < w2.heap.size := (Array.getElem?_eq_some_iff.1 hgh).1
  go_loopw [21] (fun v21 W => ∃ i : Nat, v21 = .int .i64 i ∧ i ≤ y.pits.length ∧ CpAt y w2 g cur i W) (fun v21 _ => y.pits.length - natV v21)
  case atStart => exact ⟨0, rfl, Nat.zero_le _, rfl, .rfl', rfl, Nat.le_refl _, fun _ _ _ => rfl, cur, hgh, rfl, fun _ _ => rfl, fun j p hj => by omega⟩
  case round =>
   obtain ⟨i, rfl, hi, hJ⟩ := hrel
   obtain ⟨C, j1, j2, j3, j4⟩ := hJ.row
   have k0 : wr.cell? ⟨L.ι 3, 0, none⟩ = some (.slice (some ⟨g, 0, none⟩) y.pits.length cap) := (World.cell?_of_block (hJ.same _ h3l h3g)).trans hc0
   have k1 : wr.cell? ⟨L.ι 3, 1, none⟩ = some (L.hd 10) := (World.cell?_of_block (hJ.same _ h3l h3g)).trans hc1
   have k2 : wr.cell? ⟨L.ι 3, 2, none⟩ = some (L.hd 13) := (World.cell?_of_block (hJ.same _ h3l h3g)).trans hc2
   have k3 : wr.cell? ⟨L.ι 3, 3, none⟩ = some (L.hd 16) := (World.cell?_of_block (hJ.same _ h3l h3g)).trans hc3
   have n0 : wr.cell? ⟨L.ι 2, 0, none⟩ = some d0 := by rw [World.cell?_of_block (w := w2) (hJ.same _ h2l h2g)]; simp [World.cell?, b21]
   have n1 : wr.cell? ⟨L.ι 2, 1, none⟩ = some d1 := by rw [World.cell?_of_block (w := w2) (hJ.same _ h2l h2g)]; simp [World.cell?, b21]
   have n2 : wr.cell? ⟨L.ι 2, 2, none⟩ = some d2 := by rw [World.cell?_of_block (w := w2) (hJ.same _ h2l h2g)]; simp [World.cell?, b21]
   have n3 : wr.cell? ⟨L.ι 2, 3, none⟩ = some d3 := by rw [World.cell?_of_block (w := w2) (hJ.same _ h2l h2g)]; simp [World.cell?, b21]
   have f2 : ∀ o, wr.frozen? ⟨L.ι 2, o, none⟩ = false := fun o => by rw [World.frozen?_of_block (w := w2) (hJ.same _ h2l h2g)]; simp [World.frozen?, b21]
   go_wp2
   ·rename_i hlt
    have hil : i < y.pits.length := by omega
    obtain ⟨p, hp⟩ : ∃ p, y.pits[i]? = some p := ⟨_, List.getElem?_eq_getElem hil⟩
    have hcu : i * 6 + 4 < cur.size := by rw [hgs]; omega
    have hxl := hrow.1
    have hxi : xs[i * 6 + 4]? = some cur[i * 6 + 4] := by
     rw [← hgt, List.getElem?_take, if_pos (by omega), Array.getElem?_toList, Array.getElem?_eq_getElem hcu]
    have hrep := hr3 i (ptD p) 4 (.sl 1 (p.cls.map iD)) cur[i * 6 + 4] (by rw [List.getElem?_map, hp]; rfl) rfl hxi
    generalize hvi : cur[i * 6 + 4] = vi at hrep hxi
    have hCi : C[i * 6 + 4]? = some vi := by
     rw [j3 _ (fun j hj e => by omega), ← hvi, Array.getElem?_eq_getElem hcu]
    have ki : wr.cell? ⟨g, i * 6 + 4, none⟩ = some vi := by simp [World.cell?, j1, hCi]
    have kf : wr.frozen? ⟨g, i * 6 + 4, none⟩ = false := by simp [World.frozen?, j1]
    have hgl2 : g < wr.heap.size := Nat.lt_of_lt_of_le hgl hJ.size
    have h3l2 : L.ι 3 < wr.heap.size := Nat.lt_of_lt_of_le h3l hJ.size
    have hA2 : ∀ g o, A2 g o → g < wr.drew.heap.size := fun g o h => Nat.lt_of_lt_of_le (hI.Aok g o h) hJ.size
    have hnoA : ∀ o, ¬ A2 g o := fun o ho => by
     have hg7 : g = L.ι 7 := hr4 g (by rw [hh7]; rfl)
     have := (hr5 (by rw [hh7]; intro h; cases h) o (by rw [← hg7]; exact ho)).1
     cases this
    have hrep2 : Rep wr.drew A2 (.sl 1 (p.cls.map iD)) vi := hrep.frame (w' := wr.drew) (fun _ _ h => h) (fun q o hq => World.cell?_of_block (w := w2) (hJ.same q (hI.Aok q o hq) fun e => hnoA o (e ▸ hq)))
    have hcall := cloned_call p.cls (hcl p (List.mem_of_getElem? hp)) hA2 hrep2
    have kd0 : wr.drew.cell? ⟨L.ι 3, 0, none⟩ = some (.slice (some ⟨g, 0, none⟩) y.pits.length cap) := k0
    have kdi : wr.drew.cell? ⟨g, i * 6 + 4, none⟩ = some vi := ki
    have kdf : wr.drew.frozen? ⟨g, i * 6 + 4, none⟩ = false := kf
    go_region_with
     (first | (refine hcall.mono ?_; rintro e w' ⟨u, rfl, hu1, hu2, hu3, hbw⟩; have q0 : w'.cell? ⟨L.ι 3, 0, none⟩ = some (.slice (some ⟨g, 0, none⟩) y.pits.length cap) := (World.cell?_of_block (w := wr.drew) (hbw.block _ h3l2)).trans kd0; have q1 : w'.cell? ⟨g, i * 6 + 4, none⟩ = some vi := (World.cell?_of_block (w := wr.drew) (hbw.block _ hgl2)).trans kdi; have q2 : w'.frozen? ⟨g, i * 6 + 4, none⟩ = false := (World.frozen?_of_block (w := wr.drew) (hbw.block _ hgl2)).trans kdf; obtain ⟨up, un, uc, rfl⟩ : ∃ p n c, u = .slice p n c := by obtain ⟨q, c, h, _⟩ := hu1; exact ⟨q, _, c, h⟩))
    all_goals
     go_wp2
     go_roundw
    all_goals first
     | exact ⟨i + 1, by simp, by omega, hJ.step hgl hp hcu hbw hu1 hu2⟩
     |(show y.pits.length - ((i : Int) + 1).toNat < y.pits.length - (i : Int).toNat; omega)
   have ei : i = y.pits.length := by omega
   subst ei
   refine hKK.out _ _ ?_
   refine wp_gen (N := 38) (t1 := 3) (t2 := 2) (fun wz hwz e3 e2 => ?_) rfl rfl rfl
   have hI0 : Inv (Ent.from w B0 hB0) A 38 L A2 (St.get (cpSt y)) (lk (cpSt y).bx) { tmps := wz, defers := [] } w2 := by
    refine { hI with size := hwz, df := rfl, tm := fun t => ?_ }
    by_cases e : t = 3
    ·subst e; rw [e3]; exact hI.tm 3
    ·by_cases e' : t = 2
     ·subst e'; rw [e2]; exact hI.tm 2
     ·rw [cpSt_junk e e']; exact .junk _
   obtain ⟨vv, hr'⟩ := cp_rel hI0 hh7 hgc hgs hJ
   refine awp_sound tysOk mixed (K := endX Try.S Try.f19 (.agg [.own 9 6 y.pits.length, .own 2009 3 (y.bulk.map bkD).length, .own 4009 3 (y.deps.map dpD).length, .own 6009 1 (y.carry.map iD).length])
    [(9, .shp 0 y.pits.length (PitShape (lensOf y))), (2009, .row 45 3 (y.bulk.map bkD) false), (4009, .row 47 3 (y.deps.map dpD) false), (6009, .row 3 1 (y.carry.map iD) false)]) _ ?_ hr' fun e σ' a' w' hr4 hk4 => ?_
   ·skip
    conv => whnf
    repeat' (first|((with_reducible first|refine Split.of_true ?_|refine Split.of_false ?_);conv=>whnf)|(with_reducible refine Split.neg ?_)|((with_reducible refine Split.is_true ?_ ?_);decide;conv=>whnf)|((with_reducible refine Split.is_false ?_ ?_);decide;conv=>whnf)|((with_reducible refine Split.nez (fun _=>?_) (fun _=>?_))<;>conv=>whnf)|((with_reducible refine Split.eqz (fun _=>?_) (fun _=>?_))<;>conv=>whnf)|(with_reducible refine Split.and ?_)|(with_reducible refine Split.or ?_)|((with_reducible refine Split.streq (fun _=>?_) (fun _=>?_))<;>conv=>whnf)|((with_reducible refine Split.dec (fun _=>?_) (fun _=>?_))<;>conv=>whnf)|((with_reducible refine Split.mk (fun _=>?_) (fun _=>?_))<;>conv=>whnf)|((with_reducible refine NilK.mk (fun _=>?_) ?_)<;>conv=>whnf)|((with_reducible refine AltK.l ?_);(conv=>whnf);(with_reducible refine Need.mk ?_ ?_);(first|omega|(refine ⟨?_,?_⟩<;>simp<;>omega)|(simp;omega));conv=>whnf)|((with_reducible refine Need.mk ?_ ?_);(first|omega|rfl|decide|(refine ⟨?_,?_⟩<;>simp<;>omega)|(simp;omega));conv=>whnf)|((with_reducible refine Wr.quo ?_ ?_ ?_ ?_);omega;omega;omega;conv=>whnf)|((with_reducible refine Wr.inr ?_ ?_);(first|omega|(simp;omega));conv=>whnf)|((with_reducible refine Wr.inu ?_ ?_);omega;conv=>whnf)|(exfalso;first|omega|contradiction)|fail)
    exact ⟨⟨[(9, some 7), (2009, some 10), (4009, some 13), (6009, some 16)], (by refine ⟨?_, ?_, rfl⟩<;>(repeat' (first|exact True.intro|exact rfl|(refine ⟨?_,?_⟩)|(intro h;cases h;done)|(intro h;exact h)|exact map_snoc|(refine own_congr ?_;simp;done)|(refine int_congr ?_;(first|omega|(simp;omega)))|(simp;done)|fail));done)⟩, rfl⟩
   ·cases e with
    | normal => exact retX_from tysOk hr4 hk4
    | ret => exact retX_from tysOk hr4 hk4
    | exit i => cases hk4
end Go.Proofs.Try
end

section
namespace Go.Proofs.Try
open Go Go.Vm
set_option maxRecDepth 20000
set_option maxHeartbeats 8000000
theorem xv_copiedM (y : Yd) (h1 : y.pits.length ≤ 1000) (h2 : y.bulk.length ≤ 1000) (h3 : y.deps.length ≤ 1000) (h4 : y.carry.length ≤ 1000) (hcl : ∀ p ∈ y.pits, p.cls.length ≤ 100000) :
 EvX Try.prog 19 [.d (ydD y)] [] (.agg [.own 9 6 y.pits.length, .own 2009 3 (y.bulk.map bkD).length, .own 4009 3 (y.deps.map dpD).length, .own 6009 1 (y.carry.map iD).length])
  [(9, .shp 0 y.pits.length (PitShape (lensOf y))), (2009, .row 45 3 (y.bulk.map bkD) false), (4009, .row 47 3 (y.deps.map dpD) false), (6009, .row 3 1 (y.carry.map iD) false)] := by
 by_cases hne : y.pits.length = 0
 case neg => exact xv_copiedS y h1 h2 h3 h4 hcl hne
 obtain ⟨pits, bulk, deps, carry⟩ := y
 cases pits with
 | cons p r => simp at hne
 | nil =>
 have hsh := PitShape.nil
 have c1 := xv_clonedP0
 have c2 := EvX.new1 (xs := [.sl 3 (bulk.map bkD)]) (xv_clonedB bulk (Nat.le_trans (show bulk.length ≤ 1000 from h2) (by decide))) 10
 have c3 := EvX.new1 (xs := [.sl 3 (deps.map dpD)]) (xv_clonedD deps (Nat.le_trans (show deps.length ≤ 1000 from h3) (by decide))) 13
 have c4 := EvX.new1 (xs := [.sl 1 (carry.map iD)]) (xv_clonedI carry (Nat.le_trans (show carry.length ≤ 1000 from h4) (by decide))) 16
 show EvX Try.prog 19 [.d (.agg [.sl 6 [], .sl 3 (bulk.map bkD), .sl 3 (deps.map dpD), .sl 1 (carry.map iD)])] [] (.agg [.own 9 6 0, .own 2009 3 (bulk.map bkD).length, .own 4009 3 (deps.map dpD).length, .own 6009 1 (carry.map iD).length])
  [(9, .shp 0 0 (PitShape [])), (2009, .row 45 3 (bulk.map bkD) false), (4009, .row 47 3 (deps.map dpD) false), (6009, .row 3 1 (carry.map iD) false)]
 generalize PitShape [] = Φ at hsh ⊢
 refine evx_of_awp tysOk mixed (fn := Try.f19) Try.func19 rfl rfl rfl ?_
 conv => whnf
 repeat' (first|((with_reducible refine Need.mk ?_ ?_);(first|omega|rfl|decide|(refine ⟨?_,?_⟩<;>simp<;>omega)|(simp;omega));conv=>whnf)|((with_reducible refine AltK.r ?_);(conv=>whnf);(first|(refine CallX.mk _ _ (c1) rfl ?_)|(refine CallX.mk _ _ (c2) rfl ?_)|(refine CallX.mk _ _ (c3) rfl ?_)|(refine CallX.mk _ _ (c4) rfl ?_));conv=>whnf)|fail)
 refine LoopK.unr 1 ?_
 conv => whnf
 repeat' (first|((with_reducible refine Split.is_false ?_ ?_);decide;conv=>whnf)|((with_reducible refine Need.mk ?_ ?_);(first|omega|rfl|decide|(refine ⟨?_,?_⟩<;>simp<;>omega)|(simp;omega));conv=>whnf)|fail)
 exact ⟨⟨[(9, none), (2009, some 10), (4009, some 13), (6009, some 16)], (by refine ⟨?_, ?_, rfl⟩<;>(repeat' (first|exact True.intro|exact rfl|(refine ⟨?_,?_⟩)|(intro h;cases h;done)|((first|refine own_congr ?_|refine int_congr ?_|skip);simp [hsh];done)|fail));done)⟩, rfl⟩
theorem agg4 {L : Lay} {w : World} {A A1 : Sta} {u : Value} {p q : D} {s b k n : Nat} {es : List D} (hx : RV L w A (.agg [.d p, .d q, .nil s, .own b k n]) u) (hA : ∀ g o, A g o → A1 g o) (hr : Rep w A1 (.sl k es) (L.hd b)) (hp : p.one = true) (hq : q.one = true) : Rep w A1 (.agg [p, q, .sl s [], .sl k es]) u := by
 cases hx with
 | @agg _ vs hl h1 h2 =>
  obtain ⟨vs⟩ := vs
  match vs, hl with
  | [a, b', c, d], _ =>
  have r0 : Rep w A p a := by have := h2 0 _ a rfl rfl; cases this; assumption
  have r1 : Rep w A q b' := by have := h2 1 _ b' rfl rfl; cases this; assumption
  have r2 : c = .slice none 0 0 := by have := h2 2 _ c rfl rfl; cases this; rfl
  have r3 : d = L.hd b := by have := h2 3 _ d rfl rfl; cases this; rfl
  subst r2; subst r3
  refine .agg rfl (fun c hc => ?_) fun j c v hc hv => ?_
  ·simp only [List.mem_cons, List.not_mem_nil, or_false] at hc
   rcases hc with rfl | rfl | rfl | rfl
   ·exact hp
   ·exact hq
   ·rfl
   ·rfl
  ·match j with
   | 0 => cases hc; cases hv; exact r0.frame hA fun _ _ _ => rfl
   | 1 => cases hc; cases hv; exact r1.frame hA fun _ _ _ => rfl
   | 2 => cases hc; cases hv; exact .slnil _ _ _
   | 3 => cases hc; cases hv; exact hr
   | j + 4 => simp at hc
def YdX (f : Nat) (xs : List D) (lens : List Nat) (y : Yd) (e : Int) : Prop := EvX Try.prog f (xs.map AV.d) [] (.tup [.agg [.own 9 6 lens.length, .own 2009 3 (y.bulk.map bkD).length, .own 4009 3 (y.deps.map dpD).length, .own 6009 1 (y.carry.map iD).length], .d (iD e)])
 [(9, .shp 0 lens.length (PitShape lens)), (2009, .row 45 3 (y.bulk.map bkD) false), (4009, .row 47 3 (y.deps.map dpD) false), (6009, .row 3 1 (y.carry.map iD) false)]
theorem lensOk {y : Yd} (h1 : y.pits.length ≤ 1000) (hcl : ∀ p ∈ y.pits, p.cls.length ≤ 100000) : YdL (lensOf y) := by
 refine ⟨by rw [lensOf, List.length_map]; exact h1, fun m hm => ?_⟩
 obtain ⟨p, hp, rfl⟩ := List.mem_map.1 hm
 exact hcl p hp
theorem xv_NewM (p : List Pt) (b : List Bk) (hcl : ∀ x ∈ p, x.cls.length ≤ 100000) (hb : b.length ≤ 100000) : ∃ lens y e, YdM lens y ∧ YdX 8 [.sl 6 (p.map ptD), .sl 3 (b.map bkD)] lens y e := by
 have hlb : (b.map bkD).length = b.length := List.length_map _
 have h1 := ev_DCheck (newY p b) (fun x hx => Nat.le_trans (hcl x hx) (by decide))
 have hz : List.replicate ((b.map bkD).length : Int).toNat (D.int .i64 0) = (newY p b).carry.map iD := by
  simp [newY, iD, List.map_const']
 have e : ydD (newY p b) = .agg [.sl 6 (p.map ptD), .sl 3 (b.map bkD), .sl 3 [], .sl 1 (List.replicate ((b.map bkD).length : Int).toNat (D.int .i64 0))] := by
  rw [hz]; rfl
 have hsh := PitShape.nil
 by_cases h0 : ydErr (newY p b) = 0
 ·have hy := yd_ok h0
  have hcp := (xv_copiedM (newY p b) (by have := hy.pits; omega) (by have := hy.bulk; omega) (by have := hy.deps; omega) (by have := hy.carL; have := hy.bulk; omega) hcl).rn [(9, 21), (2009, 2021), (4009, 4021), (6009, 6021)] rfl
  have hll : (lensOf (newY p b)).length = (newY p b).pits.length := List.length_map _
  refine ⟨lensOf (newY p b), newY p b, 0, ⟨lensOk (by have := hy.pits; omega) hcl, by have := hy.bulk; omega, by have := hy.deps; omega, by have := hy.carL; have := hy.bulk; omega⟩, ?_⟩
  show EvX Try.prog 8 [.d (.sl 6 (p.map ptD)), .d (.sl 3 (b.map bkD))] [] _ _
  rw [hll]
  rw [h0] at h1
  rw [e] at h1 hcp
  have hcq := EvX.frzRow (b := 12) (et := 3) (sz := 1) (es := List.replicate ((b.map bkD).length : Int).toNat (D.int .i64 0)) (fz := true) (x := .agg [.d (.sl 6 (p.map ptD)), .d (.sl 3 (b.map bkD)), .nil 3, .own 12 1 ((b.map bkD).length : Int).toNat]) hcp (fun hx hA hr => agg4 hx hA hr rfl rfl) rfl
  refine evx_of_awp tysOk mixed (fn := Try.f8) Try.func8 rfl rfl rfl ?_
  conv => whnf
  repeat' (first|((with_reducible refine Split.is_false ?_ ?_);decide;conv=>whnf)|((with_reducible refine Need.mk ?_ ?_);(first|omega|rfl|decide|(refine ⟨?_,?_⟩<;>simp<;>omega)|(simp;omega));conv=>whnf)|((with_reducible refine AltK.r ?_);(conv=>whnf);(first|(refine CallX.mk _ _ (hcq) rfl ?_));conv=>whnf)|((with_reducible refine AltK.l ?_);(conv=>whnf);(first|(refine CallK.mk _ (h1) ?_));conv=>whnf)|fail)
  exact ⟨⟨[(9, some 21), (2009, some 2021), (4009, some 4021), (6009, some 6021)], (by refine ⟨?_, ?_, rfl⟩<;>(repeat' (first|exact True.intro|exact rfl|(refine ⟨?_,?_⟩)|(intro h;cases h;done)|fail));done)⟩, rfl⟩
 ·refine ⟨[], ⟨[], [], [], []⟩, ydErr (newY p b), .nil, ?_⟩
  show EvX Try.prog 8 [.d (.sl 6 (p.map ptD)), .d (.sl 3 (b.map bkD))] [] (.tup [.agg [.own 9 6 0, .own 2009 3 0, .own 4009 3 0, .own 6009 1 0], .d (iD (ydErr (newY p b)))])
   [(9, .shp 0 0 (PitShape [])), (2009, .row 45 3 [] false), (4009, .row 47 3 [] false), (6009, .row 3 1 [] false)]
  generalize PitShape [] = Φ at hsh ⊢
  rw [e] at h1
  refine evx_of_awp tysOk mixed (fn := Try.f8) Try.func8 rfl rfl rfl ?_
  conv => whnf
  repeat' (first|((with_reducible refine Split.nez (fun _=>?_) (fun _=>?_))<;>conv=>whnf)|((with_reducible refine Need.mk ?_ ?_);(first|omega|rfl|decide|(refine ⟨?_,?_⟩<;>simp<;>omega)|(simp;omega));conv=>whnf)|((with_reducible refine AltK.l ?_);(conv=>whnf);(first|(refine CallK.mk _ (h1) ?_));conv=>whnf)|(exfalso;first|omega|contradiction)|fail)
  exact ⟨⟨[(9, none), (2009, none), (4009, none), (6009, none)], (by refine ⟨?_, ?_, rfl⟩<;>(repeat' (first|exact True.intro|exact rfl|(refine ⟨?_,?_⟩)|((first|refine own_congr ?_|refine int_congr ?_|skip);simp [hsh];done)|fail));done)⟩, rfl⟩
end Go.Proofs.Try
end

section
namespace Go.Proofs.Try
open Go Go.Vm
set_option maxRecDepth 20000
set_option maxHeartbeats 8000000
theorem xv_PlaceM {y : Yd} {b : Bt} {s : ByteArray} {k : Nat} {f : Bk} {c : Int} (hcl : ∀ x ∈ y.pits, x.cls.length ≤ 100000) (h0 : withErr y b = 0) (h : Wok y b k f c) :
 ∃ lens Y e, YdM lens Y ∧ YdX 7 [ydD y, btD b, .str s] lens Y e := by
 have hsh := PitShape.nil
 have hsm : smallP y := fun p hp => Nat.le_trans (hcl p hp) (by decide)
 have h1 := ev_CheckBatch y b hsm
 rw [h0] at h1
 have hP := h.yok.pits
 have hB := h.yok.bulk
 have hD := h.yok.deps
 have hC := h.yok.carL
 have hco := h.co
 have hden := h.fo.den
 have h2 := ev_pitOf y s (by omega)
 have h3 := ev_deposited y b.n (by omega)
 have hlp : (y.pits.map ptD).length = y.pits.length := List.length_map _
 have hld : (y.deps.map dpD).length = y.deps.length := List.length_map _
 have hcp := (xv_copiedM y (by omega) (by omega) (by omega) (by omega) hcl).rn [(9, 34), (2009, 2034), (4009, 4034), (6009, 6034)] rfl
 have hbk := (xv_bulked y b y.carry hB h.ixk h.fat h.cat h.bok h.fo (by omega)).rn [(1000, 6034)] rfl
 by_cases hdb : depB y b.n = true
 ·rw [hdb] at h3
  refine ⟨[], ⟨[], [], [], []⟩, 5, .nil, ?_⟩
  show EvX Try.prog 7 [.d (ydD y), .d (btD b), .d (.str s)] [] (.tup [.agg [.own 9 6 0, .own 2009 3 0, .own 4009 3 0, .own 6009 1 0], .d (iD 5)])
   [(9, .shp 0 0 (PitShape [])), (2009, .row 45 3 [] false), (4009, .row 47 3 [] false), (6009, .row 3 1 [] false)]
  generalize PitShape [] = Φ at hsh ⊢
  refine evx_of_awp tysOk mixed (fn := Try.f7) Try.func7 rfl rfl rfl ?_
  conv => whnf
  repeat' (first|((with_reducible refine Split.of_true ?_);conv=>whnf)|((with_reducible refine Split.is_false ?_ ?_);decide;conv=>whnf)|((with_reducible refine Need.mk ?_ ?_);(first|omega|rfl|decide|(refine ⟨?_,?_⟩<;>simp<;>omega)|(simp;omega));conv=>whnf)|((with_reducible refine AltK.l ?_);(conv=>whnf);(first|(refine CallK.mk _ (h1) ?_)|(refine CallK.mk _ (h2) ?_)|(refine CallK.mk _ (h3) ?_));conv=>whnf)|fail)
  all_goals first
   | exact ⟨⟨[(9, none), (2009, none), (4009, none), (6009, none)], (by refine ⟨?_, ?_, rfl⟩<;>(repeat' (first|exact True.intro|exact rfl|(refine ⟨?_,?_⟩)|((first|refine own_congr ?_|refine int_congr ?_|skip);simp [hsh];done)|fail));done)⟩, rfl⟩
   |(exfalso; omega)
 have hdb' : depB y b.n = false := by simpa using hdb
 rw [hdb'] at h3
 by_cases hi : pitI y s < 0
 ·skip
  refine ⟨[], ⟨[], [], [], []⟩, 6, .nil, ?_⟩
  show EvX Try.prog 7 [.d (ydD y), .d (btD b), .d (.str s)] [] (.tup [.agg [.own 9 6 0, .own 2009 3 0, .own 4009 3 0, .own 6009 1 0], .d (iD 6)])
   [(9, .shp 0 0 (PitShape [])), (2009, .row 45 3 [] false), (4009, .row 47 3 [] false), (6009, .row 3 1 [] false)]
  generalize PitShape [] = Φ at hsh ⊢
  refine evx_of_awp tysOk mixed (fn := Try.f7) Try.func7 rfl rfl rfl ?_
  conv => whnf
  repeat' (first|((with_reducible refine Split.of_false ?_);conv=>whnf)|((with_reducible refine Split.is_false ?_ ?_);decide;conv=>whnf)|((with_reducible refine Split.dec (fun _=>?_) (fun _=>?_))<;>conv=>whnf)|((with_reducible refine Need.mk ?_ ?_);(first|omega|rfl|decide|(refine ⟨?_,?_⟩<;>simp<;>omega)|(simp;omega));conv=>whnf)|((with_reducible refine AltK.l ?_);(conv=>whnf);(first|(refine CallK.mk _ (h1) ?_)|(refine CallK.mk _ (h2) ?_)|(refine CallK.mk _ (h3) ?_));conv=>whnf)|(exfalso;first|omega|contradiction)|fail)
  all_goals first
   | exact ⟨⟨[(9, none), (2009, none), (4009, none), (6009, none)], (by refine ⟨?_, ?_, rfl⟩<;>(repeat' (first|exact True.intro|exact rfl|(refine ⟨?_,?_⟩)|((first|refine own_congr ?_|refine int_congr ?_|skip);simp [hsh];done)|fail));done)⟩, rfl⟩
   |(exfalso; omega)
 obtain ⟨j, p, hj, hpj, -⟩ := ix_at hi
 have hj : pitI y s = j := hj
 rw [hj] at h2 hi
 have hpo := h.yok.pit p (List.mem_of_getElem? hpj)
 have hr := ev_refusal y b.cls (volN b f c) hpo.1 h.yok.vol (by omega) (Nat.le_trans (hcl p (List.mem_of_getElem? hpj)) (by decide))
 have hvb := volN_bd h
 have ev' : ((b.bed - b.over) * f.num + c) / f.den = volN b f c := rfl
 have ec' : ((b.bed - b.over) * f.num + c) % f.den = carN b f c := rfl
 rw [ev', ec'] at hbk
 generalize volN b f c = v at *
 generalize carN b f c = cn at *
 generalize refS y p b.cls v = rf at *
 by_cases hz : rf = 0
 case neg =>
  refine ⟨[], ⟨[], [], [], []⟩, rf, .nil, ?_⟩
  show EvX Try.prog 7 [.d (ydD y), .d (btD b), .d (.str s)] [] (.tup [.agg [.own 9 6 0, .own 2009 3 0, .own 4009 3 0, .own 6009 1 0], .d (iD rf)])
   [(9, .shp 0 0 (PitShape [])), (2009, .row 45 3 [] false), (4009, .row 47 3 [] false), (6009, .row 3 1 [] false)]
  generalize PitShape [] = Φ at hsh ⊢
  refine evx_of_awp tysOk mixed (fn := Try.f7) Try.func7 rfl rfl rfl ?_
  conv => whnf
  repeat' (first|((refine PickE.map j hpj (by omega) ?_);conv=>whnf)|((with_reducible refine Split.of_false ?_);conv=>whnf)|((with_reducible refine Split.is_false ?_ ?_);decide;conv=>whnf)|((with_reducible refine Split.nez (fun _=>?_) (fun _=>?_))<;>conv=>whnf)|((with_reducible refine Split.dec (fun _=>?_) (fun _=>?_))<;>conv=>whnf)|((with_reducible refine Need.mk ?_ ?_);(first|omega|rfl|decide|(refine ⟨?_,?_⟩<;>simp<;>omega)|(simp;omega));conv=>whnf)|((with_reducible refine AltK.r ?_);(conv=>whnf);(first|(refine CallX.mk _ _ (hcp) rfl ?_)|(refine CallX.mk _ _ (hbk) rfl ?_));conv=>whnf)|((with_reducible refine AltK.l ?_);(conv=>whnf);(first|(refine CallK.mk _ (h1) ?_)|(refine CallK.mk _ (h2) ?_)|(refine CallK.mk _ (h3) ?_)|(refine CallK.mk _ (hr) ?_));conv=>whnf)|(exfalso;first|omega|contradiction)|fail)
  all_goals first
   | exact ⟨⟨[(9, none), (2009, none), (4009, none), (6009, none)], (by refine ⟨?_, ?_, rfl⟩<;>(repeat' (first|exact True.intro|exact rfl|(refine ⟨?_,?_⟩)|((first|refine own_congr ?_|refine int_congr ?_|skip);simp [hsh];done)|fail));done)⟩, rfl⟩
   |(exfalso; omega)
 subst hz
 by_cases h200 : 200 ≤ y.deps.length
 ·skip
  refine ⟨[], ⟨[], [], [], []⟩, 8, .nil, ?_⟩
  show EvX Try.prog 7 [.d (ydD y), .d (btD b), .d (.str s)] [] (.tup [.agg [.own 9 6 0, .own 2009 3 0, .own 4009 3 0, .own 6009 1 0], .d (iD 8)])
   [(9, .shp 0 0 (PitShape [])), (2009, .row 45 3 [] false), (4009, .row 47 3 [] false), (6009, .row 3 1 [] false)]
  generalize PitShape [] = Φ at hsh ⊢
  refine evx_of_awp tysOk mixed (fn := Try.f7) Try.func7 rfl rfl rfl ?_
  conv => whnf
  repeat' (first|((refine PickE.map j hpj (by omega) ?_);conv=>whnf)|((with_reducible refine Split.of_false ?_);conv=>whnf)|((with_reducible refine Split.is_false ?_ ?_);decide;conv=>whnf)|((with_reducible refine Split.dec (fun _=>?_) (fun _=>?_))<;>conv=>whnf)|((with_reducible refine Need.mk ?_ ?_);(first|omega|rfl|decide|(refine ⟨?_,?_⟩<;>simp<;>omega)|(simp;omega));conv=>whnf)|((with_reducible refine AltK.r ?_);(conv=>whnf);(first|(refine CallX.mk _ _ (hcp) rfl ?_)|(refine CallX.mk _ _ (hbk) rfl ?_));conv=>whnf)|((with_reducible refine AltK.l ?_);(conv=>whnf);(first|(refine CallK.mk _ (h1) ?_)|(refine CallK.mk _ (h2) ?_)|(refine CallK.mk _ (h3) ?_)|(refine CallK.mk _ (hr) ?_));conv=>whnf)|(exfalso;first|omega|contradiction)|fail)
  all_goals first
   | exact ⟨⟨[(9, none), (2009, none), (4009, none), (6009, none)], (by refine ⟨?_, ?_, rfl⟩<;>(repeat' (first|exact True.intro|exact rfl|(refine ⟨?_,?_⟩)|((first|refine own_congr ?_|refine int_congr ?_|skip);simp [hsh];done)|fail));done)⟩, rfl⟩
   |(exfalso; omega)
 ·have hll : (lensOf y).length = y.pits.length := List.length_map _
  refine ⟨lensOf y, ⟨y.pits, y.bulk, y.deps ++ [⟨b.n, s, v⟩], y.carry.set k cn⟩, 0, ⟨lensOk (by omega) hcl, by show y.bulk.length ≤ 1000; omega, by show (y.deps ++ [_]).length ≤ 1000; rw [List.length_append, List.length_singleton]; omega, by show (y.carry.set k cn).length ≤ 1000; rw [List.length_set]; omega⟩, ?_⟩
  show EvX Try.prog 7 [.d (ydD y), .d (btD b), .d (.str s)] [] (.tup [.agg [.own 9 6 (lensOf y).length, .own 2009 3 (y.bulk.map bkD).length, .own 4009 3 ((y.deps ++ [(⟨b.n, s, v⟩ : Dp)]).map dpD).length, .own 6009 1 ((y.carry.set k cn).map iD).length], .d (iD 0)])
   [(9, .shp 0 (lensOf y).length (PitShape (lensOf y))), (2009, .row 45 3 (y.bulk.map bkD) false), (4009, .row 47 3 ((y.deps ++ [(⟨b.n, s, v⟩ : Dp)]).map dpD) false), (6009, .row 3 1 ((y.carry.set k cn).map iD) false)]
  rw [hll]
  refine evx_of_awp tysOk mixed (fn := Try.f7) Try.func7 rfl rfl rfl ?_
  conv => whnf
  repeat' (first|((refine PickE.map j hpj (by omega) ?_);conv=>whnf)|((with_reducible refine Split.of_false ?_);conv=>whnf)|((with_reducible refine Split.is_false ?_ ?_);decide;conv=>whnf)|((with_reducible refine Split.dec (fun _=>?_) (fun _=>?_))<;>conv=>whnf)|((with_reducible refine Need.mk ?_ ?_);(first|omega|rfl|decide|(refine ⟨?_,?_⟩<;>simp<;>omega)|(simp;omega));conv=>whnf)|((with_reducible refine AltK.r ?_);(conv=>whnf);(first|(refine CallX.mk _ _ (hcp) rfl ?_)|(refine CallX.mk _ _ (hbk) rfl ?_));conv=>whnf)|((with_reducible refine AltK.l ?_);(conv=>whnf);(first|(refine CallK.mk _ (h1) ?_)|(refine CallK.mk _ (h2) ?_)|(refine CallK.mk _ (h3) ?_)|(refine CallK.mk _ (hr) ?_));conv=>whnf)|(exfalso;first|omega|contradiction)|fail)
  all_goals first
   |(exfalso; omega)
   | exact ⟨⟨[(9, some 34), (2009, some 2034), (4009, some 67), (6009, some 6034)], (by refine ⟨?_, ?_, rfl⟩<;>(repeat' (first|exact True.intro|exact rfl|(refine ⟨?_,?_⟩)|(intro h;cases h;done)|(refine own_congr ?_;simp;done)|((first|refine own_congr ?_|refine int_congr ?_|skip);simp [dpD,iD];done)|fail));done)⟩, rfl⟩
theorem xv_PlaceNoM {y : Yd} {b : Bt} {s : ByteArray} (hsm : smallP y) (h0 : withErr y b ≠ 0) : ∃ lens Y e, YdM lens Y ∧ YdX 7 [ydD y, btD b, .str s] lens Y e := by
 have hsh := PitShape.nil
 have h1 := ev_CheckBatch y b hsm
 refine ⟨[], ⟨[], [], [], []⟩, (withErr y b), .nil, ?_⟩
 show EvX Try.prog 7 [.d (ydD y), .d (btD b), .d (.str s)] [] (.tup [.agg [.own 9 6 0, .own 2009 3 0, .own 4009 3 0, .own 6009 1 0], .d (iD (withErr y b))])
  [(9, .shp 0 0 (PitShape [])), (2009, .row 45 3 [] false), (4009, .row 47 3 [] false), (6009, .row 3 1 [] false)]
 generalize PitShape [] = Φ at hsh ⊢
 refine evx_of_awp tysOk mixed (fn := Try.f7) Try.func7 rfl rfl rfl ?_
 conv => whnf
 repeat' (first|((with_reducible refine Split.nez (fun _=>?_) (fun _=>?_))<;>conv=>whnf)|((with_reducible refine Need.mk ?_ ?_);(first|omega|rfl|decide|(refine ⟨?_,?_⟩<;>simp<;>omega)|(simp;omega));conv=>whnf)|((with_reducible refine AltK.l ?_);(conv=>whnf);(first|(refine CallK.mk _ (h1) ?_));conv=>whnf)|(exfalso;first|omega|contradiction)|fail)
 all_goals first
  | exact ⟨⟨[(9, none), (2009, none), (4009, none), (6009, none)], (by refine ⟨?_, ?_, rfl⟩<;>(repeat' (first|exact True.intro|exact rfl|(refine ⟨?_,?_⟩)|((first|refine own_congr ?_|refine int_congr ?_|skip);simp [hsh];done)|fail));done)⟩, rfl⟩
  |(exfalso; omega)
end Go.Proofs.Try
end

section
namespace Go.Proofs.Try
open Go Go.Vm
set_option maxRecDepth 20000
set_option maxHeartbeats 8000000
theorem ev_CopyInts9 (l : List Int) (hn : l.length ≤ 1000000) : Ev Try.prog 15 [.sl 1 (l.map iD)] (.sl 1 (l.map iD)) := by
 have hl : (l.map iD).length = l.length := List.length_map _
 refine ev_of_awp tysOk mixed (fn := Try.f15) Try.func15 rfl rfl rfl ?_
 conv => whnf
 repeat' (first|((with_reducible refine Need.mk ?_ ?_);(first|omega|rfl|decide|(refine ⟨?_,?_⟩<;>simp<;>omega)|(simp;omega));conv=>whnf)|fail)
 rfl
theorem ev_Copied (y : Yd) (h1 : y.pits.length ≤ 1000) (h2 : y.bulk.length ≤ 1000) (h3 : y.deps.length ≤ 1000) (h4 : y.carry.length ≤ 1000) (hcl : ∀ p ∈ y.pits, p.cls.length ≤ 100000) : Ev Try.prog 6 [ydD y] (ydD y) := by
 have hlp : (y.pits.map ptD).length = y.pits.length := List.length_map _
 have hlb : (y.bulk.map bkD).length = y.bulk.length := List.length_map _
 have hld : (y.deps.map dpD).length = y.deps.length := List.length_map _
 have hlc : (y.carry.map iD).length = y.carry.length := List.length_map _
 have hC := ev_CopyInts9 y.carry (by omega)
 refine ev_of_awp tysOk mixed (fn := Try.f6) Try.func6 rfl rfl rfl ?_
 conv => whnf
 repeat' (first|((with_reducible refine Need.mk ?_ ?_);(first|omega|rfl|decide|(refine ⟨?_,?_⟩<;>simp<;>omega)|(simp;omega));conv=>whnf)|fail)
 refine LoopK.o2 (fun i : Nat => i ≤ y.pits.length) (fun i => [(4, .d (.int .i64 i))]) (fun i => [(1, .var [.own 200 6 ((y.pits.take i).map ptD).length, .d (.sl 3 (y.bulk.map bkD)), .d (.sl 3 (y.deps.map dpD)), .d (.sl 1 (y.carry.map iD))] false), (200, .row 34 6 ((y.pits.take i).map ptD) false)]) (fun i => y.pits.length - i) 0 (by omega) (by refine ⟨?_, ?_, rfl⟩<;>(repeat' (first|exact True.intro|exact rfl|(refine ⟨?_,?_⟩)|(intro h;cases h;done)|fail));done) ?_
 rintro i hi
 have htl : ((y.pits.take i).map ptD).length = i := by simp; omega
 by_cases hil : i < y.pits.length
 ·obtain ⟨p, hp⟩ := some_of_lt hil
  have hc := ev_CopyInts9 p.cls (Nat.le_trans (hcl p (List.mem_of_getElem? hp)) (by decide))
  have hmp1 : (y.pits.take i).map ptD ++ ptD p :: List.replicate 0 (ptD p) = (y.pits.take (i + 1)).map ptD := by rw [take_snoc hp]; simp
  have hmp2 : (y.pits.take i).map ptD ++ [ptD p] = (y.pits.take (i + 1)).map ptD := by rw [take_snoc hp]; simp
  conv => whnf
  repeat' (first|((refine PickE.map i hp (by omega) ?_);conv=>whnf)|((with_reducible refine Split.dec (fun _=>?_) (fun _=>?_))<;>conv=>whnf)|((with_reducible refine Need.mk ?_ ?_);(first|omega|rfl|decide|(refine ⟨?_,?_⟩<;>simp<;>omega)|(simp;omega));conv=>whnf)|((with_reducible refine Wr.inr ?_ ?_);(first|omega|(simp;omega));conv=>whnf)|((with_reducible refine AltK.l ?_);(conv=>whnf);(first|(refine CallK.mk _ (hc) ?_));conv=>whnf)|(exfalso;first|omega|contradiction)|fail)
  exact Again.au (i + 1) (by omega) (by omega) (by refine ⟨?_, ?_, rfl⟩<;>(repeat' (first|exact True.intro|exact rfl|(refine ⟨?_,?_⟩)|(intro h;cases h;done)|exact hmp1|((first|refine own_congr ?_|refine int_congr ?_);simp [List.length_map];omega)|fail));done)
 ·have e : y.pits.take i = y.pits := List.take_of_length_le (by omega)
  rw [e] at htl ⊢
  conv => whnf
  repeat' (first|((with_reducible refine Split.dec (fun _=>?_) (fun _=>?_))<;>conv=>whnf)|((with_reducible refine Need.mk ?_ ?_);(first|omega|rfl|decide|(refine ⟨?_,?_⟩<;>simp<;>omega)|(simp;omega));conv=>whnf)|((with_reducible refine AltK.l ?_);(conv=>whnf);(first|(refine CallK.mk _ (hC) ?_));conv=>whnf)|(exfalso;first|omega|contradiction)|fail)
  rfl
def smallA (y : Yd) : Bool := !((decide (y.pits.length > 4) && decide (y.pits.length ≤ 8)) || decide (y.pits.length > 12) || (decide (y.bulk.length > 4) && decide (y.bulk.length ≤ 20)) || decide (y.bulk.length > 25) || decide (y.carry.length > 30) || (decide (y.deps.length > 8) && decide (y.deps.length ≤ 200)) || decide (y.deps.length > 205))
def smallB (y : Yd) : Bool := smallA y && y.pits.all (fun p => decide (p.name.size ≤ 40) && decide (p.cls.length ≤ 12)) && y.bulk.all (fun b => decide (b.soil.size ≤ 40)) && y.deps.all (fun d => decide (d.pit.size ≤ 40))
structure SmOk (y : Yd) : Prop where
 p : y.pits.length ≤ 4 ∨ (8 < y.pits.length ∧ y.pits.length ≤ 12)
 b : y.bulk.length ≤ 4 ∨ (20 < y.bulk.length ∧ y.bulk.length ≤ 25)
 c : y.carry.length ≤ 30
 d : y.deps.length ≤ 8 ∨ (200 < y.deps.length ∧ y.deps.length ≤ 205)
theorem sm_ok {y : Yd} (h : smallA y = true) : SmOk y := by
 simp only [smallA, Bool.not_eq_true', Bool.or_eq_false_iff, Bool.and_eq_false_iff, decide_eq_false_iff_not] at h
 exact ⟨by omega, by omega, by omega, by omega⟩
theorem sm_no {y : Yd} (h : smallA y = false) : ¬ SmOk y := by
 intro ⟨h1, h2, h3, h4⟩
 have : smallA y = true := by
  simp only [smallA, Bool.not_eq_true', Bool.or_eq_false_iff, Bool.and_eq_false_iff, decide_eq_false_iff_not]
  omega
 rw [h] at this; cases this
theorem all_snoc9 {α : Type} {l : List α} {p : α → Bool} {i : Nat} {m : α} (hm : l[i]? = some m) (h : (l.take i).all p = true) (hp : p m = true) : (l.take (i + 1)).all p = true := by
 rw [take_snoc hm, List.all_append, h]; simp [hp]
theorem all_not9 {α : Type} {l : List α} {p : α → Bool} {i : Nat} {m : α} (hm : l[i]? = some m) (hp : p m = false) : l.all p = false := by
 rw [List.all_eq_false]; exact ⟨m, List.mem_of_getElem? hm, by simp [hp]⟩
theorem ev_Small (y : Yd) : Ev Try.prog 5 [ydD y] (.bool (smallB y)) := by
 have hlp : (y.pits.map ptD).length = y.pits.length := List.length_map _
 have hlb : (y.bulk.map bkD).length = y.bulk.length := List.length_map _
 have hld : (y.deps.map dpD).length = y.deps.length := List.length_map _
 have hlc : (y.carry.map iD).length = y.carry.length := List.length_map _
 cases hA : smallA y with
 | false =>
  have hno := sm_no hA
  have e : smallB y = false := by rw [smallB, hA]; rfl
  have hx : ¬ ((y.pits.length ≤ 4 ∨ (8 < y.pits.length ∧ y.pits.length ≤ 12)) ∧ (y.bulk.length ≤ 4 ∨ (20 < y.bulk.length ∧ y.bulk.length ≤ 25)) ∧ y.carry.length ≤ 30 ∧ (y.deps.length ≤ 8 ∨ (200 < y.deps.length ∧ y.deps.length ≤ 205))) := fun h => hno ⟨h.1, h.2.1, h.2.2.1, h.2.2.2⟩
  rw [e]
  refine ev_of_awp tysOk mixed (fn := Try.f5) Try.func5 rfl rfl rfl ?_
  conv => whnf
  repeat' (first|((with_reducible first|refine Split.of_true ?_|refine Split.of_false ?_);conv=>whnf)|((with_reducible refine Split.dec (fun _=>?_) (fun _=>?_))<;>conv=>whnf)|(exfalso;first|omega|contradiction)|fail)
  all_goals first
   | rfl
   |(exfalso; omega)
 | true =>
 obtain ⟨q1, q2, q3, q4⟩ := sm_ok hA
 have e : smallB y = (y.pits.all (fun p => decide (p.name.size ≤ 40) && decide (p.cls.length ≤ 12)) && y.bulk.all (fun b => decide (b.soil.size ≤ 40)) && y.deps.all (fun d => decide (d.pit.size ≤ 40))) := by rw [smallB, hA, Bool.true_and]
 rw [e]
 clear e hA
 refine ev_of_awp tysOk mixed (fn := Try.f5) Try.func5 rfl rfl rfl ?_
 conv => whnf
 repeat' (first|((with_reducible first|refine Split.of_true ?_|refine Split.of_false ?_);conv=>whnf)|((with_reducible refine Split.dec (fun _=>?_) (fun _=>?_))<;>conv=>whnf)|(exfalso;first|omega|contradiction)|fail)
 all_goals first
  |(exfalso; omega)
  | skip
 all_goals
  refine LoopK.o2 (fun i : Nat => i ≤ y.pits.length ∧ (y.pits.take i).all (fun p => decide (p.name.size ≤ 40) && decide (p.cls.length ≤ 12)) = true) (fun i => [(3, .d (.int .i64 i))]) (fun _ => []) (fun i => y.pits.length - i) 0 ⟨by omega, rfl⟩ (by refine ⟨?_, ?_, rfl⟩<;>(repeat' (first|exact True.intro|exact rfl|(refine ⟨?_,?_⟩)|(intro h;cases h;done)|fail));done) ?_
  rintro i ⟨hi, hp⟩
  by_cases hil : i < y.pits.length
  ·obtain ⟨p, hpi⟩ := some_of_lt hil
   have hcl : (p.cls.map iD).length = p.cls.length := List.length_map _
   have hn := @all_not9 _ y.pits (fun p => decide (p.name.size ≤ 40) && decide (p.cls.length ≤ 12)) i p hpi
   have hy := @all_snoc9 _ y.pits (fun p => decide (p.name.size ≤ 40) && decide (p.cls.length ≤ 12)) i p hpi hp
   clear hp
   conv => whnf
   repeat' (first|((refine PickE.map i hpi (by omega) ?_);conv=>whnf)|((with_reducible refine Split.of_true ?_);conv=>whnf)|((with_reducible refine Split.dec (fun _=>?_) (fun _=>?_))<;>conv=>whnf)|((with_reducible refine Need.mk ?_ ?_);(first|omega|rfl|decide|(refine ⟨?_,?_⟩<;>simp<;>omega)|(simp;omega));conv=>whnf)|((with_reducible refine Wr.inr ?_ ?_);(first|omega|(simp;omega));conv=>whnf)|(exfalso;first|omega|contradiction)|fail)
   all_goals first
    | exact Again.au (i + 1) ⟨by omega, hy (by simp;omega)⟩ (by omega) (by refine ⟨?_, ?_, rfl⟩<;>(repeat' (first|exact True.intro|exact rfl|(refine ⟨?_,?_⟩)|(intro h;cases h;done)|fail));done)
    |(rw [hn (by simp; omega)]; rfl)
  rw [List.take_of_length_le (by omega)] at hp
  rw [hp, Bool.true_and]
  clear hp
  conv => whnf
  repeat' (first|((with_reducible refine Split.dec (fun _=>?_) (fun _=>?_))<;>conv=>whnf)|((with_reducible refine Need.mk ?_ ?_);(first|omega|rfl|decide|(refine ⟨?_,?_⟩<;>simp<;>omega)|(simp;omega));conv=>whnf)|(exfalso;first|omega|contradiction)|fail)
  refine LoopK.o2 (fun i : Nat => i ≤ y.bulk.length ∧ (y.bulk.take i).all (fun b => decide (b.soil.size ≤ 40)) = true) (fun i => [(4, .d (.int .i64 i))]) (fun _ => []) (fun i => y.bulk.length - i) 0 ⟨by omega, rfl⟩ (by refine ⟨?_, ?_, rfl⟩<;>(repeat' (first|exact True.intro|exact rfl|(refine ⟨?_,?_⟩)|(intro h;cases h;done)|fail));done) ?_
  rintro i ⟨hi, hp⟩
  by_cases hil : i < y.bulk.length
  ·obtain ⟨p, hpi⟩ := some_of_lt hil
   have hn := @all_not9 _ y.bulk (fun b => decide (b.soil.size ≤ 40)) i p hpi
   have hy := @all_snoc9 _ y.bulk (fun b => decide (b.soil.size ≤ 40)) i p hpi hp
   clear hp
   conv => whnf
   repeat' (first|((refine PickE.map i hpi (by omega) ?_);conv=>whnf)|((with_reducible refine Split.dec (fun _=>?_) (fun _=>?_))<;>conv=>whnf)|((with_reducible refine Need.mk ?_ ?_);(first|omega|rfl|decide|(refine ⟨?_,?_⟩<;>simp<;>omega)|(simp;omega));conv=>whnf)|((with_reducible refine Wr.inr ?_ ?_);(first|omega|(simp;omega));conv=>whnf)|(exfalso;first|omega|contradiction)|fail)
   all_goals first
    | exact Again.au (i + 1) ⟨by omega, hy (by simp;omega)⟩ (by omega) (by refine ⟨?_, ?_, rfl⟩<;>(repeat' (first|exact True.intro|exact rfl|(refine ⟨?_,?_⟩)|(intro h;cases h;done)|fail));done)
    |(rw [hn (by simp; omega)]; rfl)
  rw [List.take_of_length_le (by omega)] at hp
  rw [hp, Bool.true_and]
  clear hp
  conv => whnf
  repeat' (first|((with_reducible refine Split.dec (fun _=>?_) (fun _=>?_))<;>conv=>whnf)|((with_reducible refine Need.mk ?_ ?_);(first|omega|rfl|decide|(refine ⟨?_,?_⟩<;>simp<;>omega)|(simp;omega));conv=>whnf)|(exfalso;first|omega|contradiction)|fail)
  refine LoopK.o2 (fun i : Nat => i ≤ y.deps.length ∧ (y.deps.take i).all (fun b => decide (b.pit.size ≤ 40)) = true) (fun i => [(5, .d (.int .i64 i))]) (fun _ => []) (fun i => y.deps.length - i) 0 ⟨by omega, rfl⟩ (by refine ⟨?_, ?_, rfl⟩<;>(repeat' (first|exact True.intro|exact rfl|(refine ⟨?_,?_⟩)|(intro h;cases h;done)|fail));done) ?_
  rintro i ⟨hi, hp⟩
  by_cases hil : i < y.deps.length
  ·obtain ⟨p, hpi⟩ := some_of_lt hil
   have hn := @all_not9 _ y.deps (fun b => decide (b.pit.size ≤ 40)) i p hpi
   have hy := @all_snoc9 _ y.deps (fun b => decide (b.pit.size ≤ 40)) i p hpi hp
   clear hp
   conv => whnf
   repeat' (first|((refine PickE.map i hpi (by omega) ?_);conv=>whnf)|((with_reducible refine Split.dec (fun _=>?_) (fun _=>?_))<;>conv=>whnf)|((with_reducible refine Need.mk ?_ ?_);(first|omega|rfl|decide|(refine ⟨?_,?_⟩<;>simp<;>omega)|(simp;omega));conv=>whnf)|((with_reducible refine Wr.inr ?_ ?_);(first|omega|(simp;omega));conv=>whnf)|(exfalso;first|omega|contradiction)|fail)
   all_goals first
    | exact Again.au (i + 1) ⟨by omega, hy (by simp;omega)⟩ (by omega) (by refine ⟨?_, ?_, rfl⟩<;>(repeat' (first|exact True.intro|exact rfl|(refine ⟨?_,?_⟩)|(intro h;cases h;done)|fail));done)
    |(rw [hn (by simp; omega)]; rfl)
  rw [List.take_of_length_le (by omega)] at hp
  rw [hp]
  conv => whnf
  repeat' (first|((with_reducible refine Split.dec (fun _=>?_) (fun _=>?_))<;>conv=>whnf)|((with_reducible refine Need.mk ?_ ?_);(first|omega|rfl|decide|(refine ⟨?_,?_⟩<;>simp<;>omega)|(simp;omega));conv=>whnf)|(exfalso;first|omega|contradiction)|fail)
  rfl
end Go.Proofs.Try
end

section
namespace Go.Proofs.Try
open Go Go.Vm
set_option maxRecDepth 20000
set_option maxHeartbeats 8000000
theorem ev_deposits9 (a b : List Dp) (h : a.length ≤ 1000000) : Ev Try.prog 27 [.sl 3 (a.map dpD), .sl 3 (b.map dpD)] (.bool (eqB a b)) := by
 have hla : (a.map dpD).length = a.length := List.length_map _
 have hlb : (b.map dpD).length = b.length := List.length_map _
 refine ev_of_awp tysOk mixed (fn := Try.f27) Try.func27 rfl rfl rfl ?_
 conv => whnf
 repeat' (first|((with_reducible refine Split.nez (fun _=>?_) (fun _=>?_))<;>conv=>whnf)|fail)
 ·exact congrArg D.bool (eqB_ne fun e => by subst e; omega).symm
 refine LoopK.o2 (fun i : Nat => i ≤ a.length ∧ a.take i = b.take i) (fun i => [(5, .d (.int .i64 i))]) (fun _ => []) (fun i => a.length - i) 0 (by simp) (by refine ⟨?_, ?_, rfl⟩<;>(repeat' (first|exact True.intro|exact rfl|(refine ⟨?_,?_⟩)|fail));done) ?_
 rintro i ⟨hi, ht⟩
 have hab : a.length = b.length := by omega
 by_cases hil : i < a.length
 ·obtain ⟨x, hx⟩ := some_of_lt hil
  obtain ⟨y, hy⟩ := some_of_lt (show i < b.length by omega)
  have hne : x ≠ y → eqB a b = false := fun h => eqB_ne fun e => h (by subst e; exact Option.some.inj (hx.symm.trans hy))
  conv => whnf
  repeat' (first|((refine PickE.map i hy (by omega) ?_);conv=>whnf)|((refine PickE.map i hx (by omega) ?_);conv=>whnf)|((with_reducible refine Split.of_true ?_);conv=>whnf)|(with_reducible refine Split.neg ?_)|((with_reducible refine Split.eqz (fun _=>?_) (fun _=>?_))<;>conv=>whnf)|(with_reducible refine Split.and ?_)|((with_reducible refine Split.streq (fun _=>?_) (fun _=>?_))<;>conv=>whnf)|((with_reducible refine Split.dec (fun _=>?_) (fun _=>?_))<;>conv=>whnf)|((with_reducible refine Need.mk ?_ ?_);(first|omega|rfl|decide|(refine ⟨?_,?_⟩<;>simp<;>omega)|(simp;omega));conv=>whnf)|((with_reducible refine Wr.inr ?_ ?_);(first|omega|(simp;omega));conv=>whnf)|(exfalso;first|omega|contradiction)|fail)
  all_goals first
   |(exact congrArg D.bool (hne fun e => by subst e; contradiction).symm)
   |(have e : x = y := by
      cases x
      cases y
      simp only [Dp.mk.injEq]
      exact ⟨by assumption, by assumption, by assumption⟩
     subst e
     exact Again.au (i + 1) ⟨by omega, take_succ_eq hx hy ht⟩ (by omega) (by refine ⟨?_, ?_, rfl⟩<;>(repeat' (first|exact True.intro|exact rfl|(refine ⟨?_,?_⟩)|fail));done))
 ·conv => whnf
  repeat' (first|((with_reducible refine Split.dec (fun _=>?_) (fun _=>?_))<;>conv=>whnf)|((with_reducible refine Need.mk ?_ ?_);(first|omega|rfl|decide|(refine ⟨?_,?_⟩<;>simp<;>omega)|(simp;omega));conv=>whnf)|(exfalso;first|omega|contradiction)|fail)
  exact congrArg D.bool (eqB_of (eq_of_take ht (by omega) (by omega))).symm
theorem ev_Ints9 (a b : List Int) (ha : a.length ≤ 1000000) : Ev Try.prog 26 [.sl 1 (a.map iD), .sl 1 (b.map iD)] (.bool (eqB a b)) := by
 have hla : (a.map iD).length = a.length := List.length_map _
 have hlb : (b.map iD).length = b.length := List.length_map _
 refine ev_of_awp tysOk mixed (fn := Try.f26) Try.func26 rfl rfl rfl ?_
 conv => whnf
 repeat' (first|((with_reducible refine Split.nez (fun _=>?_) (fun _=>?_))<;>conv=>whnf)|fail)
 ·exact congrArg D.bool (eqB_ne fun e => by subst e; omega).symm
 refine LoopK.o2 (fun i : Nat => i ≤ a.length ∧ a.take i = b.take i) (fun i => [(5, .d (.int .i64 i))]) (fun _ => []) (fun i => a.length - i) 0 (by simp) (by refine ⟨?_, ?_, rfl⟩<;>(repeat' (first|exact True.intro|exact rfl|(refine ⟨?_,?_⟩)|fail));done) ?_
 rintro i ⟨hi, ht⟩
 have hab : a.length = b.length := by omega
 by_cases hil : i < a.length
 ·obtain ⟨x, hx⟩ := some_of_lt hil
  obtain ⟨y, hy⟩ := some_of_lt (show i < b.length by omega)
  have hne : x ≠ y → eqB a b = false := fun h => eqB_ne fun e => h (by subst e; exact Option.some.inj (hx.symm.trans hy))
  conv => whnf
  repeat' (first|((refine PickE.map i hy (by omega) ?_);conv=>whnf)|((refine PickE.map i hx (by omega) ?_);conv=>whnf)|((with_reducible refine Split.nez (fun _=>?_) (fun _=>?_))<;>conv=>whnf)|((with_reducible refine Split.dec (fun _=>?_) (fun _=>?_))<;>conv=>whnf)|((with_reducible refine Need.mk ?_ ?_);(first|omega|rfl|decide|(refine ⟨?_,?_⟩<;>simp<;>omega)|(simp;omega));conv=>whnf)|((with_reducible refine Wr.inr ?_ ?_);(first|omega|(simp;omega));conv=>whnf)|(exfalso;first|omega|contradiction)|fail)
  all_goals first
   |(exact congrArg D.bool (hne (by assumption)).symm)
   |(have e : x = y := by assumption
     subst e
     exact Again.au (i + 1) ⟨by omega, take_succ_eq hx hy ht⟩ (by omega) (by refine ⟨?_, ?_, rfl⟩<;>(repeat' (first|exact True.intro|exact rfl|(refine ⟨?_,?_⟩)|fail));done))
 ·conv => whnf
  repeat' (first|((with_reducible refine Split.dec (fun _=>?_) (fun _=>?_))<;>conv=>whnf)|((with_reducible refine Need.mk ?_ ?_);(first|omega|rfl|decide|(refine ⟨?_,?_⟩<;>simp<;>omega)|(simp;omega));conv=>whnf)|(exfalso;first|omega|contradiction)|fail)
  exact congrArg D.bool (eqB_of (eq_of_take ht (by omega) (by omega))).symm
end Go.Proofs.Try
end

section
namespace Go.Proofs.Try
open Go Go.Vm
set_option maxRecDepth 20000
set_option maxHeartbeats 8000000
structure SmB (y : Yd) : Prop where
 p : y.pits.length ≤ 12
 b : y.bulk.length ≤ 25
 c : y.carry.length ≤ 30
 d : y.deps.length ≤ 205
 cl : ∀ x ∈ y.pits, x.cls.length ≤ 12
theorem smB {y : Yd} (h : smallB y = true) : SmB y := by
 simp only [smallB, Bool.and_eq_true, List.all_eq_true, decide_eq_true_eq] at h
 obtain ⟨⟨⟨h1, h2⟩, -⟩, -⟩ := h
 obtain ⟨q1, q2, q3, q4⟩ := sm_ok h1
 exact ⟨by omega, by omega, by omega, by omega, fun x hx => (h2 x hx).2⟩
theorem SmB.copied {y : Yd} (h : SmB y) : Ev Try.prog 6 [ydD y] (ydD y) :=
 ev_Copied y (by have := h.p; omega) (by have := h.b; omega) (by have := h.d; omega) (by have := h.c; omega) (fun p hp => Nat.le_trans (h.cl p hp) (by decide))
theorem SmB.sp {y : Yd} (h : SmB y) : smallP y := fun p hp => Nat.le_trans (h.cl p hp) (by decide)
end Go.Proofs.Try
end

section
namespace Go.Proofs.Try
open Go Go.Vm
set_option maxRecDepth 20000
set_option maxHeartbeats 8000000
theorem ev_Layers1 (d : Dp) (s : ByteArray) : Ev Try.prog 25 [dpD d, .ref [.str s] 0] (.bool (!sEq d.pit s)) := by
 refine ev_of_awp tysOk mixed (fn := Try.f25) Try.func25 rfl rfl rfl ?_
 conv => whnf
 skip
 rfl
end Go.Proofs.Try
end

section
namespace Go.Proofs.Try
open Go Go.Vm
set_option maxRecDepth 20000
set_option maxHeartbeats 8000000
theorem xv_IndexDX (l : List Dp) (f : Nat) (caps : List D) (p : Dp → Bool) (hn : l.length ≤ 1000000) (hf : ∀ g ∈ l, Ev Try.prog f ([dpD g] ++ caps) (.bool (p g))) :
 EvX Try.prog 53 [.own 1000 3 (l.map dpD).length, .d (.fn f caps)] [(1000, .row 47 3 (l.map dpD) false)] (.d (.int .i64 (match l.findIdx? p with | some i => (i : Int) | none => -1))) [(1000, .row 47 3 (l.map dpD) false)] := by
 have hlen : (l.map dpD).length = l.length := List.length_map _
 refine evx_of_awp tysOk mixed (fn := Try.f53) Try.func53 rfl rfl rfl ?_
 conv => whnf
 skip
 refine LoopK.o2 (fun i : Nat => i ≤ l.length ∧ ∀ g ∈ l.take i, p g = false) (fun i => [(8, .d (.int .i64 i))]) (fun _ => []) (fun i => l.length - i) 0 (by simp) (by refine ⟨?_, ?_, rfl⟩<;>(repeat' (first|exact True.intro|exact rfl|(refine ⟨?_,?_⟩)|(intro h;cases h;done)|fail));done) ?_
 rintro i ⟨hi, hp⟩
 have hn : (i : Int) < l.length → ∃ m, l[i]? = some m := fun h => some_of_lt (by omega)
 conv => whnf
 repeat' (first|((with_reducible refine Split.dec (fun _=>?_) (fun _=>?_))<;>conv=>whnf)|((with_reducible refine Need.mk ?_ ?_);(first|omega|rfl|decide|(refine ⟨?_,?_⟩<;>simp<;>omega)|(simp;omega));conv=>whnf)|fail)
 ·obtain ⟨g, hg⟩ := hn (by omega)
  have hf := hf g (List.mem_of_getElem? hg)
  conv => whnf
  repeat' (first|((refine PickE.map i hg (by omega) ?_);conv=>whnf)|((with_reducible refine Need.mk ?_ ?_);(first|omega|rfl|decide|(refine ⟨?_,?_⟩<;>simp<;>omega)|(simp;omega));conv=>whnf)|fail)
  refine AltK.l ?_
  conv => whnf
  refine CallK.mk _ hf ?_
  conv => whnf
  refine Split.mk (fun hpg => ?_) (fun hpg => ?_)
  ·conv => whnf
   skip
   have e : l.findIdx? p = some i := by
    rw [List.findIdx?_eq_some_iff_getElem]
    refine ⟨by omega, by rw [(List.getElem?_eq_some_iff.1 hg).2]; exact hpg, fun j hj => ?_⟩
    have := hp l[j] (List.mem_take_iff_getElem.2 ⟨j, by omega, rfl⟩)
    rw [this]; decide
   rw [e]
   exact ⟨⟨[], (by refine ⟨?_, ?_, rfl⟩<;>(repeat' (first|exact True.intro|exact rfl|(refine ⟨?_,?_⟩)|(intro h;cases h;done)|fail));done)⟩, rfl⟩
  ·conv => whnf
   conv => whnf
   repeat' (first|((with_reducible refine Wr.inr ?_ ?_);(first|omega|(simp;omega));conv=>whnf)|fail)
   refine Again.au (i + 1) ⟨by omega, fun x hx => ?_⟩ (by omega) (by refine ⟨?_, ?_, rfl⟩<;>(repeat' (first|exact True.intro|exact rfl|(refine ⟨?_,?_⟩)|(intro h;cases h;done)|fail));done)
   rw [take_snoc hg] at hx
   rcases List.mem_append.1 hx with hx | hx
   ·exact hp x hx
   ·rw [List.mem_singleton.1 hx]; exact hpg
 ·have e : l.findIdx? p = none := by
   rw [List.findIdx?_eq_none_iff]
   intro x hx
   rw [← List.take_of_length_le (show l.length ≤ i by omega)] at hx
   exact hp x hx
  rw [e]
  exact ⟨⟨[], (by refine ⟨?_, ?_, rfl⟩<;>(repeat' (first|exact True.intro|exact rfl|(refine ⟨?_,?_⟩)|(intro h;cases h;done)|fail));done)⟩, rfl⟩
theorem xv_delD0 (l : List Dp) (f : Nat) (caps : List D) (p : Dp → Bool) (hn : l.length ≤ 1000000) (hf : ∀ g ∈ l, Ev Try.prog f ([dpD g] ++ caps) (.bool (p g))) (h0 : l.findIdx? p = none) :
 EvX Try.prog 23 [.own 1000 3 (l.map dpD).length, .d (.fn f caps)] [(1000, .row 47 3 (l.map dpD) false)] (.own 1000 3 (l.map dpD).length) [(1000, .row 47 3 (l.map dpD) false)] := by
 have hlen : (l.map dpD).length = l.length := List.length_map _
 have h := xv_IndexDX l f caps p hn hf
 rw [h0] at h
 refine evx_of_awp tysOk mixed (fn := Try.f23) Try.func23 rfl rfl rfl ?_
 conv => whnf
 repeat' (first|((with_reducible refine Split.is_true ?_ ?_);decide;conv=>whnf)|((with_reducible refine AltK.r ?_);(conv=>whnf);(first|(refine CallX.mk _ _ (h) rfl ?_));conv=>whnf)|fail)
 exact ⟨⟨[], (by refine ⟨?_, ?_, rfl⟩<;>(repeat' (first|exact True.intro|exact rfl|(refine ⟨?_,?_⟩)|(intro h;cases h;done)|fail));done)⟩, rfl⟩
def kpL {α : Type} (p : α → Bool) (l : List α) (j : Nat) : List α := (l.take j).filter fun x => !p x
theorem kp_le {α : Type} (p : α → Bool) (l : List α) (j : Nat) : (kpL p l j).length ≤ j := by
 have := List.length_filter_le (fun x => !p x) (l.take j)
 rw [List.length_take] at this
 unfold kpL
 omega
theorem kp_snoc {α : Type} {p : α → Bool} {l : List α} {j : Nat} {x : α} (h : l[j]? = some x) : kpL p l (j + 1) = if p x = true then kpL p l j else kpL p l j ++ [x] := by
 rw [kpL, take_snoc h, List.filter_append]
 by_cases hp : p x = true <;> simp [hp, kpL]
theorem kp_first {α : Type} {p : α → Bool} {l : List α} {i : Nat} (h : l.findIdx? p = some i) : kpL p l (i + 1) = l.take i ∧ i < l.length := by
 obtain ⟨h1, h2, h3⟩ := List.findIdx?_eq_some_iff_getElem.1 h
 refine ⟨?_, h1⟩
 rw [kp_snoc (List.getElem?_eq_getElem h1), if_pos h2, kpL, List.filter_eq_self]
 intro x hx
 obtain ⟨j, hj, rfl⟩ := List.mem_take_iff_getElem.1 hx
 have := h3 j (by omega)
 simpa using this
theorem take_set_snoc {α : Type} {m : List α} {i : Nat} {x : α} (h : i < m.length) : m.take i ++ [x] = (m.set i x).take (i + 1) := by
 rw [take_snoc (show (m.set i x)[i]? = some x by simp [h])]
 congr 1
 rw [List.take_set_of_le (Nat.le_refl _)]
theorem xv_delD (l : List Dp) (f : Nat) (caps : List D) (p : Dp → Bool) (hn : l.length ≤ 1000000) (hf : ∀ g ∈ l, Ev Try.prog f ([dpD g] ++ caps) (.bool (p g))) {i0 : Nat} (h0 : l.findIdx? p = some i0) :
 EvX Try.prog 23 [.own 1000 3 (l.map dpD).length, .d (.fn f caps)] [(1000, .row 47 3 (l.map dpD) false)] (.own 9 3 ((l.filter fun x => !p x).map dpD).length) [(1000, .gone), (9, .row 47 3 ((l.filter fun x => !p x).map dpD) false)] := by
 have hlen : (l.map dpD).length = l.length := List.length_map _
 have h := xv_IndexDX l f caps p hn hf
 obtain ⟨k0, hi0⟩ := kp_first h0
 rw [h0] at h
 simp only at h
 have hk0 : (kpL p l (i0 + 1)).length = i0 := by rw [k0, List.length_take]; omega
 refine evx_of_awp tysOk mixed (fn := Try.f23) Try.func23 rfl rfl rfl ?_
 conv => whnf
 repeat' (first|((with_reducible refine Split.eqz (fun _=>?_) (fun _=>?_))<;>conv=>whnf)|((with_reducible refine Wr.inr ?_ ?_);(first|omega|(simp;omega));conv=>whnf)|((with_reducible refine AltK.r ?_);(conv=>whnf);(first|(refine CallX.mk _ _ (h) rfl ?_));conv=>whnf)|(exfalso;first|omega|contradiction)|fail)
 refine LoopK.o2 (fun x : Nat × List Dp => i0 + 1 ≤ x.1 ∧ x.1 ≤ l.length ∧ x.2.length = l.length ∧ (∀ k, x.1 ≤ k → x.2[k]? = l[k]?) ∧ x.2.take (kpL p l x.1).length = kpL p l x.1 ∧ (kpL p l x.1).length < x.1)
  (fun x => [(5, .d (.int .i64 (kpL p l x.1).length)), (6, .d (.int .i64 x.1))]) (fun x => [(1000, .row 47 3 (x.2.map dpD) false)]) (fun x => l.length - x.1) (i0 + 1, l) ⟨by omega, by omega, rfl, fun _ _ => rfl, by rw [hk0, k0], by rw [hk0];exact Nat.lt_succ_self _⟩ (by refine ⟨?_, ?_, rfl⟩<;>(repeat' (first|exact True.intro|exact rfl|(refine ⟨?_,?_⟩)|(intro h;cases h;done)|(refine int_congr ?_;(first|omega|(simp;omega)))|fail));done) ?_
 rintro ⟨j, m⟩ ⟨h1, h2, h3, h4, h5, h6⟩
 dsimp only at h1 h2 h3 h4 h5 h6 ⊢
 have em : (m.map dpD).length = m.length := List.length_map _
 have hnx : (j : Int) < l.length → ∃ x, l[j]? = some x := fun h => some_of_lt (by omega)
 have e6 := kp_le p l j
 conv => whnf
 repeat' (first|((with_reducible refine Split.dec (fun _=>?_) (fun _=>?_))<;>conv=>whnf)|((with_reducible refine Need.mk ?_ ?_);(first|omega|rfl|decide|(refine ⟨?_,?_⟩<;>simp<;>omega)|(simp;omega));conv=>whnf)|fail)
 ·obtain ⟨x, hx⟩ := hnx (by omega)
  have hxm : m[j]? = some x := (h4 j (Nat.le_refl _)).trans hx
  have hp := hf x (List.mem_of_getElem? hx)
  have hs := kp_snoc (p := p) hx
  cases hpx : p x with
  | true =>
   rw [if_pos hpx] at hs
   rw [hpx] at hp
   conv => whnf
   repeat' (first|((refine PickE.map j hxm (by omega) ?_);conv=>whnf)|((with_reducible refine Split.of_true ?_);conv=>whnf)|(with_reducible refine Split.neg ?_)|((with_reducible refine Need.mk ?_ ?_);(first|omega|rfl|decide|(refine ⟨?_,?_⟩<;>simp<;>omega)|(simp;omega));conv=>whnf)|((with_reducible refine Wr.inr ?_ ?_);(first|omega|(simp;omega));conv=>whnf)|((with_reducible refine AltK.l ?_);(conv=>whnf);(first|(refine CallK.mk _ (hp) ?_));conv=>whnf)|fail)
   refine Again.au (j + 1, m) ⟨by omega, by omega, h3, fun k hk => h4 k (by omega), by rw [hs];exact h5, by rw [hs];omega⟩ (by dsimp only;omega) (by refine ⟨?_, ?_, rfl⟩<;>(repeat' (first|exact True.intro|exact rfl|(refine ⟨?_,?_⟩)|(intro h;cases h;done)|((first|refine own_congr ?_|refine int_congr ?_|skip);simp [hs];done)|fail));done)
  | false =>
   rw [hpx, if_neg (by decide)] at hs
   rw [hpx] at hp
   obtain ⟨y, hy⟩ := some_of_lt (l := m) (i := (kpL p l j).length) (by omega)
   conv => whnf
   repeat' (first|((refine PickE.map (kpL p l j).length hy (by omega) ?_);conv=>whnf)|((refine PickE.map j hxm (by omega) ?_);conv=>whnf)|((with_reducible refine Split.of_false ?_);conv=>whnf)|(with_reducible refine Split.neg ?_)|((with_reducible refine Need.mk ?_ ?_);(first|omega|rfl|decide|(refine ⟨?_,?_⟩<;>simp<;>omega)|(simp;omega));conv=>whnf)|((with_reducible refine Wr.inr ?_ ?_);(first|omega|(simp;omega));conv=>whnf)|((with_reducible refine AltK.l ?_);(conv=>whnf);(first|(refine CallK.mk _ (hp) ?_));conv=>whnf)|fail)
   refine Again.au (j + 1, m.set (kpL p l j).length x) ⟨by omega, by omega, by rw [List.length_set];exact h3, fun k hk => by rw [List.getElem?_set_ne (by omega)];exact h4 k (by omega), ?_, by rw [hs, List.length_append, List.length_singleton];omega⟩ (by dsimp only;omega) (by refine ⟨?_, ?_, rfl⟩<;>(repeat' (first|exact True.intro|exact rfl|(refine ⟨?_,?_⟩)|(intro h;cases h;done)|((first|refine own_congr ?_|refine int_congr ?_|skip);simp [hs,dpD,List.map_set];done)|fail));done)
   rw [hs, List.length_append, List.length_singleton, ← take_set_snoc (by omega), h5]
 ·have ej : j = l.length := by omega
  have ek : kpL p l j = l.filter fun x => !p x := by rw [ej, kpL, List.take_length]
  have h5' : (m.map dpD).take (kpL p l j).length = (kpL p l j).map dpD := by rw [← List.map_take, h5]
  refine AltK.r (AltK.l ?_)
  conv => whnf
  conv => whnf
  repeat' (first|((with_reducible refine Need.mk ?_ ?_);(first|omega|rfl|decide|(refine ⟨?_,?_⟩<;>simp<;>omega)|(simp;omega));conv=>whnf)|fail)
  refine AltK.r (AltK.r ?_)
  conv => whnf
  conv => whnf
  repeat' (first|((with_reducible refine Need.mk ?_ ?_);(first|omega|rfl|decide|(refine ⟨?_,?_⟩<;>simp<;>omega)|(simp;omega));conv=>whnf)|fail)
  rw [← ek]
  exact ⟨⟨[(9, some 41)], (by refine ⟨?_, ?_, rfl⟩<;>(repeat' (first|exact True.intro|exact rfl|(refine ⟨?_,?_⟩)|(intro h;cases h;done)|(refine own_congr ?_;simp;done)|((first|refine own_congr ?_|refine int_congr ?_|skip);simp [h5'];done)|fail));done)⟩, rfl⟩
def layS (y : Yd) (s : ByteArray) : List Dp := y.deps.filter fun d => sEq d.pit s
end Go.Proofs.Try
end

section
namespace Go.Proofs.Try
open Go Go.Vm
set_option maxRecDepth 20000
set_option maxHeartbeats 8000000
theorem xv_LayersM (y : Yd) (s : ByteArray) (hs : smallP y) : ∃ (l : List Dp) (e : Int), l.length ≤ 1000 ∧ EvX Try.prog 9 [.d (ydD y), .d (.str s)] [] (.tup [.own 9 3 (l.map dpD).length, .d (iD e)]) [(9, .row 47 3 (l.map dpD) false)] := by
 have h1 := ev_DCheck y hs
 by_cases h0 : ydErr y = 0
 case neg =>
  refine ⟨[], (ydErr y), Nat.zero_le _, ?_⟩
  show EvX Try.prog 9 [.d (ydD y), .d (.str s)] [] (.tup [.own 9 3 0, .d (iD (ydErr y))]) [(9, .row 47 3 [] false)]
  refine evx_of_awp tysOk mixed (fn := Try.f9) Try.func9 rfl rfl rfl ?_
  conv => whnf
  repeat' (first|((with_reducible refine Split.nez (fun _=>?_) (fun _=>?_))<;>conv=>whnf)|((with_reducible refine AltK.l ?_);(conv=>whnf);(first|(refine CallK.mk _ (h1) ?_));conv=>whnf)|(exfalso;first|omega|contradiction)|fail)
  all_goals first
   |(exfalso; omega)
   | exact ⟨⟨[(9, none)], (by refine ⟨?_, ?_, rfl⟩<;>(repeat' (first|exact True.intro|exact rfl|(refine ⟨?_,?_⟩)|fail));done)⟩, rfl⟩
 have hY := yd_ok h0
 have hp8 := hY.pits
 have hd := hY.deps
 have h2 := ev_pitOf y s (by omega)
 rw [h0] at h1
 by_cases hi : pitI y s < 0
 ·skip
  refine ⟨[], 6, Nat.zero_le _, ?_⟩
  show EvX Try.prog 9 [.d (ydD y), .d (.str s)] [] (.tup [.own 9 3 0, .d (iD 6)]) [(9, .row 47 3 [] false)]
  refine evx_of_awp tysOk mixed (fn := Try.f9) Try.func9 rfl rfl rfl ?_
  conv => whnf
  repeat' (first|((with_reducible refine Split.is_false ?_ ?_);decide;conv=>whnf)|((with_reducible refine Split.dec (fun _=>?_) (fun _=>?_))<;>conv=>whnf)|((with_reducible refine AltK.l ?_);(conv=>whnf);(first|(refine CallK.mk _ (h1) ?_)|(refine CallK.mk _ (h2) ?_));conv=>whnf)|(exfalso;first|omega|contradiction)|fail)
  all_goals first
   |(exfalso; omega)
   | exact ⟨⟨[(9, none)], (by refine ⟨?_, ?_, rfl⟩<;>(repeat' (first|exact True.intro|exact rfl|(refine ⟨?_,?_⟩)|fail));done)⟩, rfl⟩
 have hld : (y.deps.map dpD).length = y.deps.length := List.length_map _
 have hX := EvX.new1 (xs := [.sl 3 (y.deps.map dpD)]) (xv_clonedD y.deps (by omega)) 18
 have hf : ∀ g ∈ y.deps, Ev Try.prog 25 ([dpD g] ++ [.ref [.str s] 0]) (.bool (!sEq g.pit s)) := fun g _ => ev_Layers1 g s
 have ef : (y.deps.filter fun x => !!sEq x.pit s) = layS y s := by simp [layS]
 cases hx : y.deps.findIdx? (fun d => !sEq d.pit s) with
 | none =>
  have h4 := (xv_delD0 y.deps 25 [.ref [.str s] 0] (fun d => !sEq d.pit s) (by omega) hf hx).rn [(1000, 18)] rfl
  have h5 := EvX.cap 3 [.str s] false (xs := [.own 18 3 (y.deps.map dpD).length, .fnv 25 [.box 3]]) h4 rfl
  refine ⟨y.deps, 0, by omega, ?_⟩
  refine evx_of_awp tysOk mixed (fn := Try.f9) Try.func9 rfl rfl rfl ?_
  conv => whnf
  repeat' (first|((with_reducible refine Split.is_false ?_ ?_);decide;conv=>whnf)|((with_reducible refine Split.dec (fun _=>?_) (fun _=>?_))<;>conv=>whnf)|((with_reducible refine AltK.r ?_);(conv=>whnf);(first|(refine CallX.mk _ _ (hX) rfl ?_)|(refine CallX.mk _ _ (h5) rfl ?_));conv=>whnf)|((with_reducible refine AltK.l ?_);(conv=>whnf);(first|(refine CallK.mk _ (h1) ?_)|(refine CallK.mk _ (h2) ?_));conv=>whnf)|(exfalso;first|omega|contradiction)|fail)
  all_goals first
   |(exfalso; omega)
   | exact ⟨⟨[(9, some 18)], (by refine ⟨?_, ?_, rfl⟩<;>(repeat' (first|exact True.intro|exact rfl|(refine ⟨?_,?_⟩)|(intro h;cases h;done)|fail));done)⟩, rfl⟩
 | some i0 =>
  have h4 := (xv_delD y.deps 25 [.ref [.str s] 0] (fun d => !sEq d.pit s) (by omega) hf hx).rn [(1000, 18), (9, 20)] rfl
  rw [ef] at h4
  have h5 := EvX.cap 3 [.str s] false (xs := [.own 18 3 (y.deps.map dpD).length, .fnv 25 [.box 3]]) h4 rfl
  refine ⟨layS y s, 0, Nat.le_trans (List.length_filter_le _ _) (by omega), ?_⟩
  refine evx_of_awp tysOk mixed (fn := Try.f9) Try.func9 rfl rfl rfl ?_
  conv => whnf
  repeat' (first|((with_reducible refine Split.is_false ?_ ?_);decide;conv=>whnf)|((with_reducible refine Split.dec (fun _=>?_) (fun _=>?_))<;>conv=>whnf)|((with_reducible refine AltK.r ?_);(conv=>whnf);(first|(refine CallX.mk _ _ (hX) rfl ?_)|(refine CallX.mk _ _ (h5) rfl ?_));conv=>whnf)|((with_reducible refine AltK.l ?_);(conv=>whnf);(first|(refine CallK.mk _ (h1) ?_)|(refine CallK.mk _ (h2) ?_));conv=>whnf)|(exfalso;first|omega|contradiction)|fail)
  all_goals first
   |(exfalso; omega)
   | exact ⟨⟨[(9, some 20)], (by refine ⟨?_, ?_, rfl⟩<;>(repeat' (first|exact True.intro|exact rfl|(refine ⟨?_,?_⟩)|(intro h;cases h;done)|fail));done)⟩, rfl⟩
end Go.Proofs.Try
end

section
namespace Go.Proofs.Try
open Go Go.Vm
set_option maxRecDepth 20000
set_option maxHeartbeats 8000000
def cL : Code → Code
 | .seq x _ => x
 | c => c
def cR : Code → Code
 | .seq _ y => y
 | c => c
def cI : Code → Code
 | .block _ c => c
 | .loop c => c
 | c => c
noncomputable def lawC : Code := match Try.f3.body with
 | some c => c
 | none => .ret
def PitsAt (Z : Nat → Prop) (w : World) (q : Option Addr) (cap : Nat) (lens : List Nat) (s : Nat → Value) : Prop :=
 ∃ g C, q = some ⟨g, 0, none⟩ ∧ Z g ∧ w.heap[g]? = some (.cells C 34 (0, 0)) ∧ lens.length * 6 ≤ C.size ∧ lens.length ≤ cap ∧ ∀ (i m : Nat), lens[i]? = some m → C[i * 6 + 4]? = some (s i) ∧
  ∃ q' c', s i = .slice q' m c' ∧ (m = 0 ∨ ∃ g' C', q' = some ⟨g', 0, none⟩ ∧ Z g' ∧ m ≤ c' ∧ w.heap[g']? = some (.cells C' 3 (0, 0)) ∧ m ≤ C'.size)
noncomputable def lawB : Code := cI (cI (cR (cL (cR (cR (cR (cR (cR (cR (cR (cR (cR lawC))))))))))))
noncomputable def lawP : Code := cR (cL (cR (cI (cL (cR (cR lawB))))))
theorem pits_kit {Q : Exit → Act → World → Prop} {w : World} {Z : Nat → Prop} {p cap : Nat} {q : Option Addr} {lens : List Nat} {s : Nat → Value} (hl : lens.length ≤ 1000) (hm : ∀ m ∈ lens, m ≤ 100000) (hpz : ¬ Z p)
 (hy : w.cell? ⟨p, 0, none⟩ = some (.slice q lens.length cap)) (hP : lens = [] ∨ PitsAt Z w q cap lens s) (x0 x1 x2 x3 x4 x5 x6 x7 x8 x9 x10 x11 x12 x13 x16 x17 x18 x19 x20 x21 x22 x23 x24 x25 x26 x27 x28 x29 x30 x31 x32 x33 x34 x35 x36 x37 x38 x39 x40 x41 x42 x43 x44 x45 x46 x47 x48 x49 x50 x51 x52 x53 x54 x55 x56 x57 x58 x59 x60 x61 x62 x63 x64 x65 x66 x67 x68 x69 x70 x71 x72 x73 x74 x75 x76 x77 x78 x79 x80 x81 x82 x83 x84 x85 x86 x87 x88 x89 x90 x91 x92 x93 x94 x95 x96 x97 x98 x99 x100 x101 x102 x103 x104 x105 x106 x107 x108 x109 x110 x111 x112 x113 x114 x115 x116 x117 x118 x119 x120 x121 x122 x123 x124 x125 x126 x127 x128 x129 x130 x131 x132 x133 x134 x135 x136 x137 x138 x139 x140 x141 x142 x143 x144 x145 x146 x147 x148 x149 : Value)
 (hQ : ∀ y15 y16 y70 y71 y72 y73 y74 y75 y76 y77 y78 y79 y80 y81 y82 y83 y84 y85 y86 y87 y88 y89 y90 y91 y92 y93 y94 y95 y96 y97 y98 y99 y100, ∀ W, WrOk Z w W → Q .normal { tmps := List.toArray (x0 :: x1 :: x2 :: x3 :: x4 :: x5 :: x6 :: x7 :: x8 :: x9 :: x10 :: x11 :: x12 :: x13 :: .pointer (some ⟨p, 0, none⟩) :: y15 :: y16 :: x17 :: x18 :: x19 :: x20 :: x21 :: x22 :: x23 :: x24 :: x25 :: x26 :: x27 :: x28 :: x29 :: x30 :: x31 :: x32 :: x33 :: x34 :: x35 :: x36 :: x37 :: x38 :: x39 :: x40 :: x41 :: x42 :: x43 :: x44 :: x45 :: x46 :: x47 :: x48 :: x49 :: x50 :: x51 :: x52 :: x53 :: x54 :: x55 :: x56 :: x57 :: x58 :: x59 :: x60 :: x61 :: x62 :: x63 :: x64 :: x65 :: x66 :: x67 :: x68 :: x69 :: y70 :: y71 :: y72 :: y73 :: y74 :: y75 :: y76 :: y77 :: y78 :: y79 :: y80 :: y81 :: y82 :: y83 :: y84 :: y85 :: y86 :: y87 :: y88 :: y89 :: y90 :: y91 :: y92 :: y93 :: y94 :: y95 :: y96 :: y97 :: y98 :: y99 :: y100 :: x101 :: x102 :: x103 :: x104 :: x105 :: x106 :: x107 :: x108 :: x109 :: x110 :: x111 :: x112 :: x113 :: x114 :: x115 :: x116 :: x117 :: x118 :: x119 :: x120 :: x121 :: x122 :: x123 :: x124 :: x125 :: x126 :: x127 :: x128 :: x129 :: x130 :: x131 :: x132 :: x133 :: x134 :: x135 :: x136 :: x137 :: x138 :: x139 :: x140 :: x141 :: x142 :: x143 :: x144 :: x145 :: x146 :: x147 :: x148 :: x149 :: []), defers := [] } W) :
 lawP.wp Try.prog Q { tmps := List.toArray (x0 :: x1 :: x2 :: x3 :: x4 :: x5 :: x6 :: x7 :: x8 :: x9 :: x10 :: x11 :: x12 :: x13 :: .pointer (some ⟨p, 0, none⟩) :: .int .i64 0 :: x16 :: x17 :: x18 :: x19 :: x20 :: x21 :: x22 :: x23 :: x24 :: x25 :: x26 :: x27 :: x28 :: x29 :: x30 :: x31 :: x32 :: x33 :: x34 :: x35 :: x36 :: x37 :: x38 :: x39 :: x40 :: x41 :: x42 :: x43 :: x44 :: x45 :: x46 :: x47 :: x48 :: x49 :: x50 :: x51 :: x52 :: x53 :: x54 :: x55 :: x56 :: x57 :: x58 :: x59 :: x60 :: x61 :: x62 :: x63 :: x64 :: x65 :: x66 :: x67 :: x68 :: x69 :: x70 :: x71 :: x72 :: x73 :: x74 :: x75 :: x76 :: x77 :: x78 :: x79 :: x80 :: x81 :: x82 :: x83 :: x84 :: x85 :: x86 :: x87 :: x88 :: x89 :: x90 :: x91 :: x92 :: x93 :: x94 :: x95 :: x96 :: x97 :: x98 :: x99 :: x100 :: x101 :: x102 :: x103 :: x104 :: x105 :: x106 :: x107 :: x108 :: x109 :: x110 :: x111 :: x112 :: x113 :: x114 :: x115 :: x116 :: x117 :: x118 :: x119 :: x120 :: x121 :: x122 :: x123 :: x124 :: x125 :: x126 :: x127 :: x128 :: x129 :: x130 :: x131 :: x132 :: x133 :: x134 :: x135 :: x136 :: x137 :: x138 :: x139 :: x140 :: x141 :: x142 :: x143 :: x144 :: x145 :: x146 :: x147 :: x148 :: x149 :: []), defers := [] } w := by
 simp only [lawP, lawB, lawC, cL, cR, cI, Try.f3]
 refine wp_block ?_
 go_loopw [15] (fun v15 W => ∃ i : Nat, v15 = .int .i64 i ∧ i ≤ lens.length ∧ WrOk Z w W) (fun v15 _ => lens.length - natV v15)
 case atStart => exact ⟨0, rfl, Nat.zero_le _, .rfl'⟩
 case round =>
  obtain ⟨i, rfl, hi, hW⟩ := hrel
  have k0 : wr.cell? ⟨p, 0, none⟩ = some (.slice q lens.length cap) := (World.cell?_of_block (hW.same _ hpz)).trans hy
  go_wp2
  rotate_left
  ·exact hW
  rename_i hlt
  have hil : i < lens.length := by omega
  obtain ⟨m, hmi⟩ : ∃ m, lens[i]? = some m := ⟨_, List.getElem?_eq_getElem hil⟩
  have hm1 : m ≤ 100000 := hm m (List.mem_of_getElem? hmi)
  obtain ⟨g, C, rfl, hgz, hgh, hgs, hgc, hge⟩ : PitsAt Z w q cap lens s := by
   rcases hP with h | h
   ·rw [h] at hil; simp at hil
   ·exact h
  obtain ⟨e1, q', c', e2, e3⟩ := hge i m hmi
  have hpg : p ≠ g := fun e => hpz (e ▸ hgz)
  have rd : ∀ {W : World}, WrOk Z w W → W.cell? ⟨p, 0, none⟩ = some (.slice (some ⟨g, 0, none⟩) lens.length cap) ∧ W.cell? ⟨g, i * 6 + 4, none⟩ = some (.slice q' m c') ∧ (∃ v1, W.cell? ⟨g, i * 6 + 1, none⟩ = some v1) ∧ (∀ o, W.frozen? ⟨g, o, none⟩ = false) ∧
   ∀ k, k < m → ∃ g' v, q' = some ⟨g', 0, none⟩ ∧ Z g' ∧ W.cell? ⟨g', k, none⟩ = some v ∧ (∀ o, W.frozen? ⟨g', o, none⟩ = false) ∧ m ≤ c' ∧ ∃ C', w.heap[g']? = some (.cells C' 3 (0, 0)) := fun {W} hW => by
   obtain ⟨C1, d1, d2, d3⟩ := hW.cells g C _ hgh
   refine ⟨(World.cell?_of_block (hW.same _ hpz)).trans hy, ?_, ?_, fun o => by simp [World.frozen?, d1], fun k hk => ?_⟩
   ·have := d3 rfl i
    rw [e1, e2] at this
    simp [World.cell?, d1, this]
   ·have h1 : i * 6 + 1 < C1.size := by omega
    exact ⟨C1[i * 6 + 1], by simp [World.cell?, d1, Array.getElem?_eq_getElem h1]⟩
   ·rcases e3 with e3 | ⟨g', C', f1, f2, f3, f4, f5⟩
    ·omega
    ·obtain ⟨C2, d4, d5, -⟩ := hW.cells g' C' _ f4
     have h1 : k < C2.size := by omega
     exact ⟨g', C2[k], f1, f2, by simp [World.cell?, d4, Array.getElem?_eq_getElem h1], fun o => by simp [World.frozen?, d4], f3, C', f4⟩
  go_loopw [16] (fun v16 W => ∃ k : Nat, v16 = .int .i64 k ∧ k ≤ m ∧ WrOk Z w W) (fun v16 _ => m - natV v16)
  case atStart => exact ⟨0, rfl, Nat.zero_le _, hW⟩
  case round =>
   obtain ⟨k, rfl, hk, hW⟩ := hrel
   obtain ⟨k0, k1, ⟨v1, k2⟩, k3, k4⟩ := rd hW
   by_cases hkm : k < m
   ·obtain ⟨g', v, rfl, n1, n2, n3, n4, C', n5⟩ := k4 k hkm
    have n6 := n3 k
    go_wp2
    all_goals try (exfalso; omega)
    all_goals first
     | exact ⟨⟨k + 1, by simp, by omega, hW.set _ n1 n5 (fun h => by cases h)⟩, by show m - ((k : Int) + 1).toNat < m - (k : Int).toNat; omega⟩
   ·have k5 := k3 (i * 6 + 1)
    go_wp2
    all_goals try (exfalso; omega)
    all_goals first
     | exact ⟨⟨i + 1, by simp, by omega, hW.set _ hgz hgh (fun _ j => by omega)⟩, by show lens.length - ((i : Int) + 1).toNat < lens.length - (i : Int).toNat; omega⟩
end Go.Proofs.Try
end

section
namespace Go.Proofs.Try
open Go Go.Vm
set_option maxRecDepth 40000
set_option maxHeartbeats 8000000
theorem list10 {α : Type} {n : Nat} : ∀ (l : List α), l.length = n + 10 → ∃ a0 a1 a2 a3 a4 a5 a6 a7 a8 a9 r, l = a0 :: a1 :: a2 :: a3 :: a4 :: a5 :: a6 :: a7 :: a8 :: a9 :: r ∧ r.length = n
 | a0 :: a1 :: a2 :: a3 :: a4 :: a5 :: a6 :: a7 :: a8 :: a9 :: r, h => ⟨a0, a1, a2, a3, a4, a5, a6, a7, a8, a9, r, rfl, by simpa using h⟩
theorem list150 {α : Type} {P : List α → Prop} (H : ∀ x0 x1 x2 x3 x4 x5 x6 x7 x8 x9 x10 x11 x12 x13 x14 x15 x16 x17 x18 x19 x20 x21 x22 x23 x24 x25 x26 x27 x28 x29 x30 x31 x32 x33 x34 x35 x36 x37 x38 x39 x40 x41 x42 x43 x44 x45 x46 x47 x48 x49 x50 x51 x52 x53 x54 x55 x56 x57 x58 x59 x60 x61 x62 x63 x64 x65 x66 x67 x68 x69 x70 x71 x72 x73 x74 x75 x76 x77 x78 x79 x80 x81 x82 x83 x84 x85 x86 x87 x88 x89 x90 x91 x92 x93 x94 x95 x96 x97 x98 x99 x100 x101 x102 x103 x104 x105 x106 x107 x108 x109 x110 x111 x112 x113 x114 x115 x116 x117 x118 x119 x120 x121 x122 x123 x124 x125 x126 x127 x128 x129 x130 x131 x132 x133 x134 x135 x136 x137 x138 x139 x140 x141 x142 x143 x144 x145 x146 x147 x148 x149, P (x0 :: x1 :: x2 :: x3 :: x4 :: x5 :: x6 :: x7 :: x8 :: x9 :: x10 :: x11 :: x12 :: x13 :: x14 :: x15 :: x16 :: x17 :: x18 :: x19 :: x20 :: x21 :: x22 :: x23 :: x24 :: x25 :: x26 :: x27 :: x28 :: x29 :: x30 :: x31 :: x32 :: x33 :: x34 :: x35 :: x36 :: x37 :: x38 :: x39 :: x40 :: x41 :: x42 :: x43 :: x44 :: x45 :: x46 :: x47 :: x48 :: x49 :: x50 :: x51 :: x52 :: x53 :: x54 :: x55 :: x56 :: x57 :: x58 :: x59 :: x60 :: x61 :: x62 :: x63 :: x64 :: x65 :: x66 :: x67 :: x68 :: x69 :: x70 :: x71 :: x72 :: x73 :: x74 :: x75 :: x76 :: x77 :: x78 :: x79 :: x80 :: x81 :: x82 :: x83 :: x84 :: x85 :: x86 :: x87 :: x88 :: x89 :: x90 :: x91 :: x92 :: x93 :: x94 :: x95 :: x96 :: x97 :: x98 :: x99 :: x100 :: x101 :: x102 :: x103 :: x104 :: x105 :: x106 :: x107 :: x108 :: x109 :: x110 :: x111 :: x112 :: x113 :: x114 :: x115 :: x116 :: x117 :: x118 :: x119 :: x120 :: x121 :: x122 :: x123 :: x124 :: x125 :: x126 :: x127 :: x128 :: x129 :: x130 :: x131 :: x132 :: x133 :: x134 :: x135 :: x136 :: x137 :: x138 :: x139 :: x140 :: x141 :: x142 :: x143 :: x144 :: x145 :: x146 :: x147 :: x148 :: x149 :: [])) (l : List α) (h : l.length = 150) : P l := by
 obtain ⟨x0, x1, x2, x3, x4, x5, x6, x7, x8, x9, l0, h0, g0⟩ := list10 (n := 140) l h
 obtain ⟨x10, x11, x12, x13, x14, x15, x16, x17, x18, x19, l1, h1, g1⟩ := list10 (n := 130) l0 g0
 obtain ⟨x20, x21, x22, x23, x24, x25, x26, x27, x28, x29, l2, h2, g2⟩ := list10 (n := 120) l1 g1
 obtain ⟨x30, x31, x32, x33, x34, x35, x36, x37, x38, x39, l3, h3, g3⟩ := list10 (n := 110) l2 g2
 obtain ⟨x40, x41, x42, x43, x44, x45, x46, x47, x48, x49, l4, h4, g4⟩ := list10 (n := 100) l3 g3
 obtain ⟨x50, x51, x52, x53, x54, x55, x56, x57, x58, x59, l5, h5, g5⟩ := list10 (n := 90) l4 g4
 obtain ⟨x60, x61, x62, x63, x64, x65, x66, x67, x68, x69, l6, h6, g6⟩ := list10 (n := 80) l5 g5
 obtain ⟨x70, x71, x72, x73, x74, x75, x76, x77, x78, x79, l7, h7, g7⟩ := list10 (n := 70) l6 g6
 obtain ⟨x80, x81, x82, x83, x84, x85, x86, x87, x88, x89, l8, h8, g8⟩ := list10 (n := 60) l7 g7
 obtain ⟨x90, x91, x92, x93, x94, x95, x96, x97, x98, x99, l9, h9, g9⟩ := list10 (n := 50) l8 g8
 obtain ⟨x100, x101, x102, x103, x104, x105, x106, x107, x108, x109, l10, h10, g10⟩ := list10 (n := 40) l9 g9
 obtain ⟨x110, x111, x112, x113, x114, x115, x116, x117, x118, x119, l11, h11, g11⟩ := list10 (n := 30) l10 g10
 obtain ⟨x120, x121, x122, x123, x124, x125, x126, x127, x128, x129, l12, h12, g12⟩ := list10 (n := 20) l11 g11
 obtain ⟨x130, x131, x132, x133, x134, x135, x136, x137, x138, x139, l13, h13, g13⟩ := list10 (n := 10) l12 g12
 obtain ⟨x140, x141, x142, x143, x144, x145, x146, x147, x148, x149, l14, h14, g14⟩ := list10 (n := 0) l13 g13
 have h15 : l14 = [] := List.length_eq_zero_iff.1 g14
 rw [h0, h1, h2, h3, h4, h5, h6, h7, h8, h9, h10, h11, h12, h13, h14, h15]
 exact H _ _ _ _ _ _ _ _ _ _ _ _ _ _ _ _ _ _ _ _ _ _ _ _ _ _ _ _ _ _ _ _ _ _ _ _ _ _ _ _ _ _ _ _ _ _ _ _ _ _ _ _ _ _ _ _ _ _ _ _ _ _ _ _ _ _ _ _ _ _ _ _ _ _ _ _ _ _ _ _ _ _ _ _ _ _ _ _ _ _ _ _ _ _ _ _ _ _ _ _ _ _ _ _ _ _ _ _ _ _ _ _ _ _ _ _ _ _ _ _ _ _ _ _ _ _ _ _ _ _ _ _ _ _ _ _ _ _ _ _ _ _ _ _ _ _ _ _ _ _
def agree (f : Nat → Bool) : Nat → List Value → List Value → Prop
 | k, x :: xs, y :: ys => (f k = true ∨ x = y) ∧ agree f (k + 1) xs ys
 | _, [], [] => True
 | _, _, _ => False
theorem agree_get {f : Nat → Bool} : ∀ {k : Nat} {xs ys : List Value}, agree f k xs ys → ∀ t, f (k + t) = false → xs.toArray.getD t undef = ys.toArray.getD t undef
 | k, x :: xs, y :: ys, h, 0, ht => by
  rcases h.1 with h | h
  ·rw [Nat.add_zero, h] at ht; cases ht
  ·simp [h]
 | k, x :: xs, y :: ys, h, t + 1, ht => by
  have := agree_get h.2 t (by rw [Nat.add_right_comm]; exact ht)
  simpa using this
 | _, [], [], _, t, _ => rfl
 | _, [], _ :: _, h, _, _ => h.elim
 | _, _ :: _, [], h, _, _ => h.elim
theorem keep_lk : ∀ (T : List (Nat × AV)) (t : Nat), lk (keepT T) t = if wrS t = true then none else lk T t
 | [], t => by simp [keepT, lk]
 |(k, v) :: T, t => by
  have ih := keep_lk T t
  unfold keepT at ih ⊢
  rw [List.filter_cons]
  by_cases hk : wrS k = true
  ·rw [if_neg (by simp [hk]), ih, lk_cons]
   by_cases e : t = k
   ·subst e; rw [if_pos hk, if_pos hk]
   ·rw [if_neg e]
  ·rw [if_pos (by simp [hk]), lk_cons, lk_cons, ih]
   by_cases e : t = k
   ·subst e; rw [if_pos rfl, if_pos rfl, if_neg hk]
   ·rw [if_neg e, if_neg e]
theorem pits_inv {e : Ent} {A0 A : Sta} {N : Nat} {L : Lay} {T : Nat → AV} {B : Nat → Option Bx} {a : Act} {w W : World} {b v : Nat} {lens : List Nat} (hI : Inv e A0 N L A T B a w) (hb : B b = some (.shp v lens.length (PitShape lens))) (hW : WrOk (own L b (.shp v lens.length (PitShape lens))) w W) : Inv e A0 N L A T B a W := by
 obtain ⟨s1, s2, s3⟩ := hI.bxs b _ hb
 refine hI.turns (fun k => k = b) (own L b (.shp v lens.length (PitShape lens))) hW.os hW.tape hW.out (Nat.le_of_eq hW.size.symm) (fun k hk => ?_) (fun k b' x hk hb' hx ho => hb' (hI.inj b' b x _ k hx hb ho hk)) (fun k hk hk' => hW.same k hk') (fun q o hq => ?_) (fun _ _ h => h)
  (fun q o hq => by rw [hW.size]; exact hI.Aok q o hq) (fun _ _ h => .inl h) (fun b _ => .rfl') (fun b hb _ => rfl) (fun b hb => rfl) (fun b hb => hb) (fun b _ hb => hb) (fun b' x hb' hx => ?_) (fun b b' x x' k hb hb' _ _ _ _ => hb.trans hb'.symm) (fun b' x b'' hb' hx hm => ?_)
 ·have := hI.lo b _ k hb hk
  exact ⟨this.1, by rw [hW.size]; exact this.2⟩
 ·exact World.cell?_of_block (w := w) (hW.same q fun hq' => s3 q hq' o hq)
 ·subst hb'
  rw [hb] at hx; cases hx
  refine ⟨⟨s1, ?_, s3⟩, fun g h => h⟩
  obtain ⟨p, cap, e1, h⟩ := s2
  refine ⟨p, cap, e1, ?_⟩
  rcases h with h | ⟨g, C, e2, h1, h2, h3, h4⟩
  ·exact .inl h
  ·subst e2
   have h2' : w.heap[g]? = some (.cells C 34 (0, 0)) := by
    rw [e1] at h2; exact h2
   obtain ⟨C', c1, c2, c3⟩ := hW.cells g C _ h2'
   refine .inr ⟨g, C', rfl, h1, by rw [e1]; exact c1, by rw [c2]; exact h3, fun i m hm => ?_⟩
   obtain ⟨h5, q', c', h6, h7⟩ := h4 i m hm
   have hil : i < lens.length := lt_of_get hm
   refine ⟨by rw [c3 rfl i]; exact h5, q', c', h6, ?_⟩
   rcases h7 with h7 | ⟨g', C1, e3, h8, h9, h10⟩
   ·exact .inl h7
   ·subst e3
    simp only [hil, if_true] at h6 h9 ⊢
    have h9' : w.heap[g']? = some (.cells C1 3 (0, 0)) := by
     rw [h6] at h9; exact h9
    obtain ⟨C2, d1, d2, -⟩ := hW.cells g' C1 _ h9'
    exact .inr ⟨g', C2, rfl, h8, by rw [h6]; exact d1, by rw [d2]; exact h10⟩
 ·subst hb'
  rw [hb] at hx; cases hx; cases hm
theorem pits_walk {Q : Exit → Act → World → Prop} {e : Ent} {A0 : Sta} {σ : St} {a : Act} {w : World} (hr : Rel e A0 150 σ a w) {b v : Nat} {lens : List Nat} {x1 x2 x3 : AV} (h14 : σ.get 14 = .ptr 14 0) (h15 : σ.get 15 = .d (.int .i64 0))
 (hb14 : lk σ.bx 14 = some (.var [.own b 6 lens.length, x1, x2, x3] false)) (hb : lk σ.bx b = some (.shp v lens.length (PitShape lens))) (hl : lens.length ≤ 1000) (hm : ∀ m ∈ lens, m ≤ 100000)
 (hQ : ∀ a' w', Rel e A0 150 ⟨keepT σ.T, σ.bx⟩ a' w' → Q .normal a' w') : lawP.wp Try.prog Q a w := by
 obtain ⟨L, A, hI⟩ := hr
 obtain ⟨tm, df⟩ := a
 obtain rfl : df = [] := hI.df
 obtain ⟨tl, rfl⟩ : ∃ tl : List Value, tm = tl.toArray := ⟨tm.toList, by simp⟩
 have hsz : tl.length = 150 := by have := hI.size; simpa using this
 revert hI
 refine list150 (P := fun tl => Inv e A0 150 L A (St.get σ) (lk σ.bx) { tmps := tl.toArray, defers := [] } w → lawP.wp Try.prog Q { tmps := tl.toArray, defers := [] } w) ?_ tl hsz
 intro x0 x1 x2 x3 x4 x5 x6 x7 x8 x9 x10 x11 x12 x13 x14 x15 x16 x17 x18 x19 x20 x21 x22 x23 x24 x25 x26 x27 x28 x29 x30 x31 x32 x33 x34 x35 x36 x37 x38 x39 x40 x41 x42 x43 x44 x45 x46 x47 x48 x49 x50 x51 x52 x53 x54 x55 x56 x57 x58 x59 x60 x61 x62 x63 x64 x65 x66 x67 x68 x69 x70 x71 x72 x73 x74 x75 x76 x77 x78 x79 x80 x81 x82 x83 x84 x85 x86 x87 x88 x89 x90 x91 x92 x93 x94 x95 x96 x97 x98 x99 x100 x101 x102 x103 x104 x105 x106 x107 x108 x109 x110 x111 x112 x113 x114 x115 x116 x117 x118 x119 x120 x121 x122 x123 x124 x125 x126 x127 x128 x129 x130 x131 x132 x133 x134 x135 x136 x137 x138 x139 x140 x141 x142 x143 x144 x145 x146 x147 x148 x149 hI
 obtain rfl : x14 = .pointer (some ⟨L.ι 14, 0, none⟩) := by have := hI.tm 14; rw [h14] at this; cases this; rfl
 obtain rfl : x15 = .int .i64 0 := by have := hI.tm 15; rw [h15] at this; cases this; rename_i h; cases h; rfl
 obtain ⟨C4, t4, b1, b2, b3, -⟩ := hI.bxs 14 _ hb14
 obtain ⟨cl⟩ := C4
 match cl, b2, b1, b3 with
 | [z0, z1, z2, z3], _, b1, b3 =>
 obtain rfl : z0 = L.hd b := by have := b3 0 _ z0 rfl rfl; cases this; rfl
 obtain ⟨s1, s2, s3⟩ := hI.bxs b _ hb
 have s2' := s2
 obtain ⟨q, cap, e1, h⟩ := s2'
 have hy : w.cell? ⟨L.ι 14, 0, none⟩ = some (.slice q lens.length cap) := by rw [← e1]; simp [World.cell?, b1]
 have hpz : ¬ own L b (.shp v lens.length (PitShape lens)) (L.ι 14) := fun ho => by
  have := hI.inj 14 b _ _ (L.ι 14) hb14 hb rfl ho
  subst this
  rw [hb14] at hb; cases hb
 have hP : lens = [] ∨ PitsAt (own L b (.shp v lens.length (PitShape lens))) w q cap lens fun i => if i < lens.length then L.sub b v i else undef := by
  rcases h with h | ⟨g, C, e2, h1, h2, h3, h4⟩
  ·exact .inl h
  ·subst e2
   rw [e1] at h2
   refine .inr ⟨g, C, rfl, .inl (by rw [e1]; rfl), h2, h3, h1, fun i m hm => ?_⟩
   obtain ⟨h5, q', c', h6, h7⟩ := h4 i m hm
   refine ⟨h5, q', c', h6, ?_⟩
   have hil : i < lens.length := lt_of_get hm
   rcases h7 with h7 | ⟨g', C1, e3, h8, h9, h10⟩
   ·exact .inl h7
   ·subst e3
    simp only [hil, if_true] at h6 h9
    rw [h6] at h9
    exact .inr ⟨g', C1, rfl, .inr ⟨i, hil, by rw [h6]; rfl⟩, h8, h9, h10⟩
 refine pits_kit hl hm hpz hy hP _ _ _ _ _ _ _ _ _ _ _ _ _ _ _ _ _ _ _ _ _ _ _ _ _ _ _ _ _ _ _ _ _ _ _ _ _ _ _ _ _ _ _ _ _ _ _ _ _ _ _ _ _ _ _ _ _ _ _ _ _ _ _ _ _ _ _ _ _ _ _ _ _ _ _ _ _ _ _ _ _ _ _ _ _ _ _ _ _ _ _ _ _ _ _ _ _ _ _ _ _ _ _ _ _ _ _ _ _ _ _ _ _ _ _ _ _ _ _ _ _ _ _ _ _ _ _ _ _ _ _ _ _ _ _ _ _ _ _ _ _ _ _ _ _ _ _ _ fun y15 y16 y70 y71 y72 y73 y74 y75 y76 y77 y78 y79 y80 y81 y82 y83 y84 y85 y86 y87 y88 y89 y90 y91 y92 y93 y94 y95 y96 y97 y98 y99 y100 W hW => ?_
 have hI2 := pits_inv hI hb hW
 refine hQ _ _ ⟨L, A, { hI2 with size := rfl, df := rfl, tm := fun t => ?_, clT := fun t b' hm' => ?_ }⟩
 ·simp only [St.get, keep_lk]
  by_cases e : wrS t = true
  ·rw [if_pos e]; exact .junk _
  ·rw [if_neg e]
   have h := hI2.tm t
   refine agree_get (f := wrS) (k := 0) ?_ t (by rw [Nat.zero_add]; simpa using e) ▸ h
   repeat (refine ⟨?_, ?_⟩; first | exact .inr rfl | exact .inl rfl)
   trivial
 ·simp only [St.get, keep_lk] at hm'
  by_cases e : wrS t = true
  ·rw [if_pos e] at hm'; cases hm'
  ·rw [if_neg e] at hm'; exact hI2.clT t b' hm'
end Go.Proofs.Try
end

section
namespace Go.Proofs.Try
open Go Go.Vm
set_option maxRecDepth 40000
set_option maxHeartbeats 8000000
def awpPre (P : Program) (S : Tys) (N : Nat) (K : St → Prop) : Nat → Code → St → Prop
 | 0, _, σ => K σ
 | n + 1, .seq x y, σ => awp P S N x (onlyN fun σ' => awpPre P S N K n y σ') σ
 | _ + 1, _, _ => False
def dropC : Nat → Code → Code
 | 0, c => c
 | n + 1, .seq _ y => dropC n y
 | _ + 1, c => c
theorem wp_pre {P : Program} {S : Tys} {N : Nat} (hS : TysOk P S) (hm : P.follows .mixedOrders = true) {e : Ent} {A0 : Sta} {K : St → Prop} {Q : Exit → Act → World → Prop} : ∀ (n : Nat) {c : Code} {σ : St} {a : Act} {w : World},
 awpPre P S N K n c σ → Rel e A0 N σ a w → (∀ σ' a' w', Rel e A0 N σ' a' w' → K σ' → (dropC n c).wp P Q a' w') → c.wp P Q a w
 | 0, c, σ, a, w, h, hr, hk => hk σ a w hr h
 | n + 1, c, σ, a, w, h, hr, hk => by
  cases c with
  | seq x y => exact wp_piece hS hm h hr fun σ' a' w' hr' hk' => wp_pre hS hm n hk' hr' hk
  | _ => exact h.elim
theorem law_small (hA : Ev Try.prog 4 [] (.bool true)) (y : Yd) (b : Bt) (h : smallB y = false ∨ 40 < b.soil.size) : Ev Try.prog 3 [ydD y, btD b] (.bool true) := by
 have h1 := ev_Small y
 cases hs : smallB y with
 | false =>
  rw [hs] at h1
  refine ev_of_awp tysOk mixed (fn := Try.f3) Try.func3 rfl rfl rfl ?_
  conv => whnf
  repeat' (first|((with_reducible first|refine Split.of_true ?_|refine Split.of_false ?_);conv=>whnf)|(with_reducible refine Split.neg ?_)|((with_reducible refine AltK.l ?_);(conv=>whnf);(first|(refine CallK.mk _ (hA) ?_)|(refine CallK.mk _ (h1) ?_));conv=>whnf)|fail)
  rfl
 | true =>
  rw [hs] at h1 h
  have hb : 40 < b.soil.size := by simpa using h
  refine ev_of_awp tysOk mixed (fn := Try.f3) Try.func3 rfl rfl rfl ?_
  conv => whnf
  repeat' (first|((with_reducible refine Split.of_true ?_);conv=>whnf)|(with_reducible refine Split.neg ?_)|((with_reducible refine Split.dec (fun _=>?_) (fun _=>?_))<;>conv=>whnf)|((with_reducible refine AltK.l ?_);(conv=>whnf);(first|(refine CallK.mk _ (hA) ?_)|(refine CallK.mk _ (h1) ?_));conv=>whnf)|(exfalso;first|omega|contradiction)|fail)
  all_goals first
   | rfl
   |(exfalso; omega)
end Go.Proofs.Try
end

section
namespace Go.Proofs.Try
open Go Go.Vm
set_option maxRecDepth 40000
set_option maxHeartbeats 8000000
def lawSt (y : Yd) (l1 l2 : List Nat) (y1 y2 : Yd) (l : List Dp) : St := ⟨[(2, .ptr 2 0), (5, .ptr 5 0), (7, .ptr 7 0), (9, .ptr 9 0), (11, .own 61 3 (l.map dpD).length)],
 [(2, .var [.d (.sl 6 (y.pits.map ptD)), .d (.sl 3 (y.bulk.map bkD)), .d (.sl 3 (y.deps.map dpD)), .d (.sl 1 (y.carry.map iD))] false),
  (5, .var [.d (.sl 6 (y.pits.map ptD)), .d (.sl 3 (y.bulk.map bkD)), .d (.sl 3 (y.deps.map dpD)), .d (.sl 1 (y.carry.map iD))] false),
  (7, .var [.own 47 6 l1.length, .own 2047 3 (y1.bulk.map bkD).length, .own 4047 3 (y1.deps.map dpD).length, .own 6047 1 (y1.carry.map iD).length] false),
  (9, .var [.own 55 6 l2.length, .own 2055 3 (y2.bulk.map bkD).length, .own 4055 3 (y2.deps.map dpD).length, .own 6055 1 (y2.carry.map iD).length] false),
  (47, .shp 0 l1.length (PitShape l1)), (2047, .row 45 3 (y1.bulk.map bkD) false), (4047, .row 47 3 (y1.deps.map dpD) false), (6047, .row 3 1 (y1.carry.map iD) false),
  (55, .shp 0 l2.length (PitShape l2)), (2055, .row 45 3 (y2.bulk.map bkD) false), (4055, .row 47 3 (y2.deps.map dpD) false), (6055, .row 3 1 (y2.carry.map iD) false),
  (61, .row 47 3 (l.map dpD) false)]⟩
theorem law_pre (hA : Ev Try.prog 4 [] (.bool true)) (y : Yd) (b : Bt) (hs : smallB y = true) (hb : b.soil.size ≤ 40) (hP : ∀ s, ∃ lens Y e, YdM lens Y ∧ YdX 7 [ydD y, btD b, .str s] lens Y e) (hN : ∃ lens Y e, YdM lens Y ∧ YdX 8 [.sl 6 (y.pits.map ptD), .sl 3 (y.bulk.map bkD)] lens Y e)
 (hL : ∀ s, ∃ (l : List Dp) (e : Int), l.length ≤ 1000 ∧ EvX Try.prog 9 [.d (ydD y), .d (.str s)] [] (.tup [.own 9 3 (l.map dpD).length, .d (iD e)]) [(9, .row 47 3 (l.map dpD) false)]) :
 awpPre Try.prog Try.S 150 (fun σ => ∃ l1 l2 y1 y2 l, YdM l1 y1 ∧ YdM l2 y2 ∧ l.length ≤ 1000 ∧ Le σ (lawSt y l1 l2 y1 y2 l) []) 9 lawC ⟨numT 0 [ydD y, btD b], []⟩ := by
 have h1 := ev_Small y
 rw [hs] at h1
 have hB := smB hs
 have h2 := hB.copied
 obtain ⟨l2, y2, e2, o2, hn⟩ := hN
 have hn := hn.rn [(9, 55), (2009, 2055), (4009, 4055), (6009, 6055)] rfl
 have hlp : (y.pits.map ptD).length = y.pits.length := List.length_map _
 cases hpp : y.pits with
 | nil =>
  have hp0 : y.pits.length = 0 := by rw [hpp]; rfl
  clear hpp
  obtain ⟨l1, y1, e1, o1, hp⟩ := hP ⟨#[]⟩
  have hp := hp.rn [(9, 47), (2009, 2047), (4009, 4047), (6009, 6047)] rfl
  obtain ⟨l, e3, o3, hl⟩ := hL ⟨#[]⟩
  have hl := hl.rn [(9, 61)] rfl
  unfold lawC
  conv => whnf
  repeat' (first|((with_reducible refine Split.of_true ?_);conv=>whnf)|(with_reducible refine Split.neg ?_)|((with_reducible refine Split.dec (fun _=>?_) (fun _=>?_))<;>conv=>whnf)|((with_reducible refine Need.mk ?_ ?_);(first|omega|rfl|decide|(refine ⟨?_,?_⟩<;>simp<;>omega)|(simp;omega));conv=>whnf)|((with_reducible refine AltK.r ?_);(conv=>whnf);(first|(refine CallX.mk _ _ (hp) rfl ?_)|(refine CallX.mk _ _ (hn) rfl ?_)|(refine CallX.mk _ _ (hl) rfl ?_));conv=>whnf)|((with_reducible refine AltK.l ?_);(conv=>whnf);(first|(refine CallK.mk _ (hA) ?_)|(refine CallK.mk _ (h1) ?_)|(refine CallK.mk _ (h2) ?_));conv=>whnf)|(exfalso;first|omega|contradiction)|fail)
  all_goals first
   |(exfalso; omega)
   |(refine ⟨l1, l2, y1, y2, l, o1, o2, o3, ?_⟩;unfold lawSt;exact (by refine ⟨?_, ?_, rfl⟩<;>(repeat' (first|exact True.intro|exact rfl|(refine ⟨?_,?_⟩)|(intro h;cases h;done)|fail));done))
 | cons p r =>
  obtain ⟨l1, y1, e1, o1, hp⟩ := hP p.name
  have hp := hp.rn [(9, 47), (2009, 2047), (4009, 4047), (6009, 6047)] rfl
  obtain ⟨l, e3, o3, hl⟩ := hL p.name
  have hl := hl.rn [(9, 61)] rfl
  have hp0 : y.pits[0]? = some p := by rw [hpp]; rfl
  have hp1 : 0 < y.pits.length := lt_of_some hp0
  clear hpp
  unfold lawC
  conv => whnf
  repeat' (first|((refine PickE.map 0 hp0 (by omega) ?_);conv=>whnf)|((with_reducible refine Split.of_true ?_);conv=>whnf)|(with_reducible refine Split.neg ?_)|((with_reducible refine Split.dec (fun _=>?_) (fun _=>?_))<;>conv=>whnf)|((with_reducible refine Need.mk ?_ ?_);(first|omega|rfl|decide|(refine ⟨?_,?_⟩<;>simp<;>omega)|(simp;omega));conv=>whnf)|((with_reducible refine AltK.r ?_);(conv=>whnf);(first|(refine CallX.mk _ _ (hp) rfl ?_)|(refine CallX.mk _ _ (hn) rfl ?_)|(refine CallX.mk _ _ (hl) rfl ?_));conv=>whnf)|((with_reducible refine AltK.l ?_);(conv=>whnf);(first|(refine CallK.mk _ (hA) ?_)|(refine CallK.mk _ (h1) ?_)|(refine CallK.mk _ (h2) ?_));conv=>whnf)|(exfalso;first|omega|contradiction)|fail)
  all_goals first
   |(exfalso; omega)
   |(refine ⟨l1, l2, y1, y2, l, o1, o2, o3, ?_⟩;unfold lawSt;exact (by refine ⟨?_, ?_, rfl⟩<;>(repeat' (first|exact True.intro|exact rfl|(refine ⟨?_,?_⟩)|(intro h;cases h;done)|fail));done))
end Go.Proofs.Try
end
