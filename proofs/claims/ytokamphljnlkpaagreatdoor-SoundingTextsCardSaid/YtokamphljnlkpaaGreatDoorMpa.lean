/- Texts TxA TxB TxC TxD LyIt LyAt LySp TxE TxP TyA TyB TwM SdA SxA TyE TyF TyC TyD TyG LyCu SxB, joined; what is not needed is left out. -/
import Derived.Test.YtokamphljnlkpaaGreatDoorMgI
import Derived.Shelf.Strings.Builder1
import Derived.Test.YtokamphljnlkpaaGreatDoorProg
import Derived.Test.YtokamphljnlkpaaGreatDoorMgH
import Derived.Shelf.LaysM
import Derived.Shelf.LaysC
import Derived.Shelf.Lays
import Derived.Lib.ItoaLen
import Derived.Lib.AtoiTie
import Derived.Lib.SplitLaws
import Derived.Lib.CutLaws
import Derived.Lib.MakeNoZero
import Derived.Laws.IdiomCopy
import Derived.Lib.AtoiAllCases
import Derived.Test.YtokamphljnlkpaaGreatDoorMcb
section
namespace Go.Proofs.Tryz
open Go Go.Vm
open Go.RowKit (Below)
set_option maxRecDepth 100000
set_option maxHeartbeats 4000000
theorem bld_size : (Tryz.prog.info? 76).map (·.size) = some 2 := by kernel_rfl
theorem bld_lies : liesAt Tryz.prog Tryz.prog.depth 76 (2 / Tryz.prog.cellsOf 76) 0 76 1 = true := by kernel_rfl
theorem byt_info : (Tryz.prog.info? 5).map (fun i => (i.zero, i.size, i.bytes)) = some (some (.int .u8 0), 1, 1) := by kernel_rfl
theorem byt_cells : Tryz.prog.cellsOf 5 = 1 := by kernel_rfl
theorem cc_used (b : Nat) (x : Value) (w : World) (hb : w.heap[b]? = some (.cells #[.pointer (some ⟨b, 0, none⟩), x] 76 (0, 0))) :
 Calls Tryz.prog 61 #[.pointer (some ⟨b, 0, none⟩)] w fun e w' => e = .returned (.tuple #[]) ∧ w' = w := by
 obtain ⟨j, hj, _⟩ := Option.map_eq_some_iff.1 bld_size
 have h0 : w.cell? ⟨b, 0, none⟩ = some (.pointer (some ⟨b, 0, none⟩)) := by rw [cell_of_row w b 0 _ _ _ hb]; rfl
 go_enter Tryz.func61, Tryz.ntmps61
 go_wp2
 rw [Lib.run_neq_ptr_same w _ Tryz.underlying73 hj]
 go_wp2
 go_end0
 exact ⟨rfl, rfl⟩
theorem cc_fresh (b : Nat) (x : Value) (w : World) (hb : w.heap[b]? = some (.cells #[.pointer none, x] 76 (0, 0))) :
 Calls Tryz.prog 61 #[.pointer (some ⟨b, 0, none⟩)] w fun e w' => e = .returned (.tuple #[]) ∧ w' = w.setCell ⟨b, 0, none⟩ (.pointer (some ⟨b, 0, none⟩)) := by
 obtain ⟨j, hj, hjs⟩ := Option.map_eq_some_iff.1 bld_size
 have h0 : w.cell? ⟨b, 0, none⟩ = some (.pointer none) := by rw [cell_of_row w b 0 _ _ _ hb]; rfl
 have hsh : w.shape? b = some (76, 2) := by simp [World.shape?, hb]
 have hfz : w.frozen? ⟨b, 0, none⟩ = false := by simp [World.frozen?, hb]
 go_enter Tryz.func61, Tryz.ntmps61
 go_wp2
 rw [Lib.run_to_unsafe w ⟨b, 0, none⟩ Tryz.underlying73 Tryz.underlying133 hj (by rw [hjs]; decide) hsh (Nat.zero_lt_succ 1)]
 simp only [Result.andThen]
 rw [Oper.upon_value]
 go_wp2
 rw [run_callFunc_extern Tryz.func80 (by kernel_rfl) (by kernel_rfl) (by kernel_rfl) (e := Extern.AbiNoEscape.same) (by kernel_rfl)]
 rw [Lib.run_noEscape]
 simp only [Result.andThen]
 rw [Oper.upon_value]
 go_wp2
 rw [Lib.run_from_unsafe w ⟨b, 0, none⟩ Tryz.underlying133 Tryz.underlying73 hj hsh bld_lies]
 simp only [Result.andThen]
 rw [Oper.upon_value]
 go_wp2
 go_end0
 exact ⟨rfl, rfl⟩
end Go.Proofs.Tryz
end

section
namespace Go.Proofs.Tryz
open Go Go.Vm
open Go.RowKit (Below)
set_option maxRecDepth 100000
set_option maxHeartbeats 4000000
structure BlKept (w w' : World) (b : Nat) (v : Value) : Prop where
 os : w'.os = w.os
 tape : w'.tape = w.tape
 output : w'.output = w.output
 size : w.heap.size ≤ w'.heap.size
 same : ∀ k, k < w.heap.size → k ≠ b → v.ownBlock ≠ some k → w'.heap[k]? = w.heap[k]?
theorem row_to {w w' : World} {B e sz n : Nat} {v : Value} {xs : List Value} (h : w.ownsRow B e sz v n xs) (hk : ∀ g, v.ownBlock = some g → w'.heap[g]? = w.heap[g]?) : w'.ownsRow B e sz v n xs := ownsRow_world h hk
theorem row_lt {w : World} {B e sz n : Nat} {v : Value} {xs : List Value} (h : w.ownsRow B e sz v n xs) {g : Nat} (hg : v.ownBlock = some g) : g < w.heap.size ∧ B ≤ g := by
 rcases h.2 with ⟨rfl, _⟩ | ⟨g', cap, cur, rfl, h1, h2, _⟩
 ·cases hg
 ·cases hg
  exact ⟨(Array.getElem?_eq_some_iff.1 h2).1, h1⟩
theorem row_slice {w : World} {B e sz n : Nat} {v : Value} {xs : List Value} (h : w.ownsRow B e sz v n xs) : ∃ a c, v = .slice a n c := by
 rcases h.2 with ⟨rfl, rfl⟩ | ⟨g', cap, cur, rfl, _⟩
 ·exact ⟨_, _, rfl⟩
 ·exact ⟨_, _, rfl⟩
theorem setCell_heap {W : World} {g o : Nat} {C : Array Value} {t : TypeId} {fr : Nat × Nat} (v : Value) (h : W.heap[g]? = some (.cells C t fr)) : (W.setCell ⟨g, o, none⟩ v).heap[g]? = some (.cells (C.setIfInBounds o v) t fr) := by
 obtain ⟨hlt, hk⟩ := Array.getElem?_eq_some_iff.1 h
 show (W.heap.modify g _)[g]? = _
 rw [Array.getElem?_eq_getElem (by rw [Array.size_modify]; exact hlt), Array.getElem_modify_self, hk]
 rfl
theorem setCell_other {W : World} {g o k : Nat} (v : Value) (h : k ≠ g) : (W.setCell ⟨g, o, none⟩ v).heap[k]? = W.heap[k]? := RowKit.Below.heap_setCell W _ v k h
theorem setCell_size {W : World} {g o : Nat} (v : Value) : (W.setCell ⟨g, o, none⟩ v).heap.size = W.heap.size := by
 show (W.heap.modify g _).size = _
 rw [Array.size_modify]
theorem cc_any (b : Nat) (p v : Value) (w : World) (hb : w.heap[b]? = some (.cells #[p, v] 76 (0, 0))) (hp : p = .pointer none ∨ p = .pointer (some ⟨b, 0, none⟩)) :
 Calls Tryz.prog 61 #[.pointer (some ⟨b, 0, none⟩)] w fun e w' => e = .returned (.tuple #[]) ∧ w'.heap[b]? = some (.cells #[.pointer (some ⟨b, 0, none⟩), v] 76 (0, 0)) ∧
  w'.os = w.os ∧ w'.tape = w.tape ∧ w'.output = w.output ∧ w'.heap.size = w.heap.size ∧ ∀ k, k ≠ b → w'.heap[k]? = w.heap[k]? := by
 rcases hp with rfl | rfl
 ·refine (cc_fresh b v w hb).mono fun e w' he => ?_
  obtain ⟨rfl, rfl⟩ := he
  exact ⟨rfl, setCell_heap _ hb, rfl, rfl, rfl, setCell_size _, fun k hk => setCell_other _ hk⟩
 ·refine (cc_used b v w hb).mono fun e w' he => ?_
  obtain ⟨rfl, rfl⟩ := he
  exact ⟨rfl, hb, rfl, rfl, rfl, rfl, fun _ _ => rfl⟩
theorem ws_walk (B b n : Nat) (p v : Value) (xs : List Value) (s : ByteArray) (w : World) (hb : w.heap[b]? = some (.cells #[p, v] 76 (0, 0))) (hp : p = .pointer none ∨ p = .pointer (some ⟨b, 0, none⟩))
 (hown : w.ownsRow B 5 1 v n xs) (hne : v.ownBlock ≠ some b) (hlen : n + s.size ≤ 140737488355328) (hB : B ≤ w.heap.size) :
 Calls Tryz.prog 28 #[.pointer (some ⟨b, 0, none⟩), .string s] w fun e w' => e = .returned (.tuple #[.int .i64 s.size, .nilIface]) ∧ BlKept w w' b v ∧
  ∃ v', w'.heap[b]? = some (.cells #[.pointer (some ⟨b, 0, none⟩), v'] 76 (0, 0)) ∧ w'.ownsRow B 5 1 v' (n + s.size) (xs ++ Lib.strCells s) ∧
   (v'.ownBlock = v.ownBlock ∨ v'.ownBlock = some w.heap.size) := by
 obtain ⟨i0, hi, hz0, hz1, hz2⟩ : ∃ i, Tryz.prog.info? 5 = some i ∧ i.zero = some (.int .u8 0) ∧ i.size = 1 ∧ i.bytes = 1 := by
  obtain ⟨i, h1, h2⟩ := Option.map_eq_some_iff.1 byt_info
  simp only [Prod.mk.injEq] at h2
  exact ⟨i, h1, h2.1, h2.2.1, h2.2.2⟩
 have hblt : b < w.heap.size := (Array.getElem?_eq_some_iff.1 hb).1
 go_enter Tryz.func28, Tryz.ntmps28
 go_wp2_with (go_at_call 61; refine (cc_any b p v _ hb hp).mono ?_)
 rintro e w1 ⟨rfl, h1, h2, h3, h4, h5, h6⟩
 have hown1 : w1.ownsRow B 5 1 v n xs := row_to hown fun g hg => h6 g fun e => hne (by rw [hg, e])
 have c0 : w1.cell? ⟨b, 0, none⟩ = some (.pointer (some ⟨b, 0, none⟩)) := by rw [Lib.cell_of_heap h1]; rfl
 have c1 : w1.cell? ⟨b, 1, none⟩ = some v := by rw [Lib.cell_of_heap h1]; rfl
 go_wp2_with (at_builtin; refine wp_append_str rfl _ _ 74 9 rfl B 5 i0 Tryz.underlying74 Tryz.underlying9 hi hz0 hz1 hz2 _ _ _ rfl hown1 s rfl ?c4 ?c5 ?_)
 case c4 => exact hlen
 case c5 => omega
 intro v' w2 hown' hgrow hor
 have hb2 : w2.heap[b]? = some (.cells #[.pointer (some ⟨b, 0, none⟩), v] 76 (0, 0)) := by
  rw [hgrow.block b (by omega) (fun e => hne e.symm)]
  exact h1
 have d0 : w2.cell? ⟨b, 0, none⟩ = some (.pointer (some ⟨b, 0, none⟩)) := by rw [Lib.cell_of_heap hb2]; rfl
 have d1 : w2.cell? ⟨b, 1, none⟩ = some v := by rw [Lib.cell_of_heap hb2]; rfl
 have f1 : w2.frozen? ⟨b, 1, none⟩ = false := Lib.frozen_of_heap hb2 1
 have hne' : v'.ownBlock ≠ some b := by
  rcases hor with h | ⟨h, -⟩
  ·rw [h]; exact hne
  ·rw [h]; intro e; cases e; omega
 obtain ⟨ao, cap, rfl⟩ := row_slice hown'
 go_wp2
 go_ret2
 have hgs := hgrow.size
 refine ⟨rfl, ⟨hgrow.os.trans h2, hgrow.tape.trans h3, hgrow.output.trans h4, by rw [setCell_size]; omega, fun k hk hkb hkv => ?_⟩, .slice ao (n + s.size) cap, setCell_heap _ hb2, row_to hown' fun g hg => setCell_other _ fun e => hne' (by rw [hg, e]), ?_⟩
 ·rw [setCell_other _ hkb, hgrow.block k (by omega) (fun e => hkv e.symm)]
  exact h6 k hkb
 ·rcases hor with h | ⟨h, -⟩
  ·exact .inl h
  ·exact .inr (by first | exact h | rw [h, h5])
end Go.Proofs.Tryz
end

section
namespace Go.Proofs.Tryz
open Go Go.Vm
open Go.RowKit (Below)
set_option maxRecDepth 100000
set_option maxHeartbeats 4000000
theorem ba_app (t s : ByteArray) : (t ++ s).data.toList = t.data.toList ++ s.data.toList := by simp [ByteArray.data_append]
theorem bytV_app (t s : ByteArray) : bytV (t ++ s) = bytV t ++ Lib.strCells s := by simp [bytV, Lib.strCells]
theorem lk_one {b b' : Nat} {x y : Bx} (h : lk [(b, x)] b' = some y) : b' = b ∧ y = x := by
 rw [lk_c] at h
 split at h
 ·rename_i e; cases h; exact ⟨e, rfl⟩
 ·cases h
theorem xv_ws (v : Nat) (t s : ByteArray) (h : t.size + s.size ≤ 140737488355328) : EvX Tryz.prog 28 [.ptr 1000 0, .d (.str s)] [(1000, .bld v 76 5 t)] (.tup [.d (.int .i64 s.size), .d (.ifc false)]) [(1000, .bld (v + 1) 76 5 (t ++ s))] := by
 refine ⟨⟨_, Tryz.func28, rfl, rfl⟩, fun B0 w A L vals hB0 hg hA hsz hreps hmen hH => ?_⟩
 obtain ⟨v1, v2, rfl⟩ := vals2 hsz rfl
 have r1 := hreps 0 _ v1 rfl rfl
 have r2 := hreps 1 _ v2 rfl rfl
 cases r1
 cases r2 with
 | d r2 =>
 cases r2
 have hl : lk [(1000, Bx.bld v 76 5 t)] 1000 = some (.bld v 76 5 t) := by rw [lk_c, if_pos rfl]
 obtain ⟨q1, ⟨p, q2, q3⟩, q4, q5, q6⟩ := hH.br 1000 _ hl
 have hclm : ∀ {g}, own L 1000 (.bld v 76 5 t) g → claims L [(1000, Bx.bld v 76 5 t)] g := fun ho => ⟨1000, _, hl, ho⟩
 refine (ws_walk B0 (L.ι 1000) t.size p (L.sub 1000 v 0) (bytV t) s w q2 q3 q4 q5 h hB0).mono ?_
 rintro e w' ⟨rfl, hk, v', k1, k2, k3⟩
 let L' : Lay := { L with sub := upd L.sub 1000 (upd (L.sub 1000) (v + 1) fun _ => v'), top := upd L.top 1000 (v + 1) }
 have s1 : L'.sub 1000 (v + 1) 0 = v' := by simp only [L', upd_same]
 have s2 : L'.top 1000 = v + 1 := by show upd L.top 1000 (v + 1) 1000 = v + 1; exact upd_same _ _ _
 have hAk : ∀ g o, A g o → w'.heap[g]? = w.heap[g]? := fun g o ha => hk.same g (hA g o ha) (fun e => q6 g (.inl e) o ha) (fun e => q6 g (.inr e) o ha)
 have hown : ∀ g, own L' 1000 (.bld (v + 1) 76 5 (t ++ s)) g → own L 1000 (.bld v 76 5 t) g ∨ g = w.heap.size := by
  rintro g (hg | hg)
  ·exact .inl (.inl hg)
  ·rw [s1] at hg
   rcases k3 with e | e
   ·exact .inl (.inr (by rw [← e]; exact hg))
   ·rw [e] at hg; cases hg; exact .inr rfl
 have hlo : ∀ g, own L 1000 (.bld v 76 5 t) g → B0 ≤ g ∧ g < w.heap.size := fun g hg => hH.lo 1000 _ g hl hg
 have hnb : v'.ownBlock ≠ some (L.ι 1000) := by
  rcases k3 with e | e
  ·rw [e]; exact q5
  ·rw [e]; intro h
   have := (hlo _ (.inl rfl)).2
   have h2 := Option.some.inj h
   omega
 refine ⟨_, A, L', rfl, .tup rfl fun j c u hc hu => ?_, hk.os, ⟨hk.tape, trivial⟩, hk.output, hk.size, fun k hks hn => hk.same k hks (fun e => hn (hclm (.inl e))) (fun e => hn (hclm (.inr e))), fun _ _ h => h,
  fun g o ha => World.cell?_of_block (w := w) (hAk g o ha), fun g o ha => Nat.lt_of_lt_of_le (hA g o ha) hk.size, fun g o ha => .inl ha, ⟨fun b x hx => ?_, fun b x g hx ho => ?_, fun b b' x x' g hx hx' _ _ => ?_, fun b x b' hx hm => ?_⟩,
  fun g hg => ?_, fun b hb hb' => ?_, fun b hb => by cases hb⟩
 ·match j with
  | 0 => cases hc; cases hu; exact .d (.int _ _)
  | 1 => cases hc; cases hu; exact .d .ifcN
  | j + 2 => simp at hc
 ·obtain ⟨rfl, rfl⟩ := lk_one hx
  refine ⟨s2.symm, ⟨_, by rw [s1]; exact k1, .inr rfl⟩, ?_, by rw [s1]; exact hnb, fun g ho o ha => ?_⟩
  ·rw [s1, bytV_app, ByteArray.size_append]; exact k2
  ·rcases hown g ho with h1 | h1
   ·exact q6 g h1 o ha
   ·have := hA g o ha; omega
 ·obtain ⟨rfl, rfl⟩ := lk_one hx
  have hs := hk.size
  rcases hown g ho with h1 | h1
  ·have := hlo g h1; omega
  ·subst h1
   refine ⟨hB0, ?_⟩
   rcases ho with ho | ho
   ·have := (hlo _ (.inl ho)).2; omega
   ·rw [s1] at ho; exact (row_lt k2 ho).1
 ·rw [(lk_one hx).1, (lk_one hx').1]
 ·obtain ⟨rfl, rfl⟩ := lk_one hx; cases hm
 ·obtain ⟨b, x, hx, ho⟩ := hg
  obtain ⟨rfl, rfl⟩ := lk_one hx
  rcases hown g ho with h1 | h1
  ·exact .inr (hclm h1)
  ·exact .inl (by omega)
 ·by_cases e : b = 1000
  ·subst e
   refine ⟨rfl, rfl, by rw [s2, ← q1]; exact Nat.le_succ _, fun v0 hv0 i => ?_⟩
   have : v0 ≠ v + 1 := by omega
   simp only [L', upd_same]
   rw [upd_ne _ _ this]
  ·exact absurd (show lk [(1000, Bx.bld v 76 5 t)] b = none by rw [lk_c, if_neg e]; rfl) hb
end Go.Proofs.Tryz
end

section
namespace Go.Proofs.Tryz
open Go Go.Vm
open Go.RowKit (Below)
set_option maxRecDepth 100000
set_option maxHeartbeats 4000000
theorem kept_freeze (w : World) (b g n : Nat) (cap : Nat) : BlKept w (w.drew.freeze ⟨g, 0, none⟩ n) b (.slice (some ⟨g, 0, none⟩) n cap) := by
 unfold World.freeze
 split
 ·exact ⟨rfl, rfl, rfl, Nat.le_refl _, fun _ _ _ _ => rfl⟩
 ·refine ⟨rfl, rfl, rfl, by show w.heap.size ≤ (w.heap.modify g _).size; rw [Array.size_modify]; exact Nat.le_refl _, fun k hk _ hv => ?_⟩
  have : g ≠ k := fun e => hv (by rw [← e]; rfl)
  show (w.heap.modify g _)[k]? = _
  rw [Array.getElem?_modify, if_neg this]
theorem kept_drew (w : World) (b : Nat) (v : Value) : BlKept w w.drew b v := ⟨rfl, rfl, rfl, Nat.le_refl _, fun _ _ _ _ => rfl⟩
theorem kept_alloc (w : World) (b : Nat) (v : Value) (o : Obj) : BlKept w (w.drew.alloc o) b v := ⟨rfl, rfl, rfl, by simp, fun k hk _ _ => heap_old w.drew o hk⟩
theorem str_some (b g cap : Nat) (p : Value) (l : List UInt8) (cur : Array Value) (w : World) (h0 : l ≠ []) (hb : w.heap[b]? = some (.cells #[p, .slice (some ⟨g, 0, none⟩) l.length cap] 76 (0, 0)))
 (hg : w.heap[g]? = some (.cells cur 5 (0, 0))) (hnc : l.length ≤ cap) (hcm : cap ≤ maxLen) (hcs : cur.size = cap) (hc : ∀ (j : Nat) (x : UInt8), l[j]? = some x → w.cell? ((⟨g, 0, none⟩ : Addr).add j) = some (.int .u8 x.toNat)) :
 Calls Tryz.prog 29 #[.pointer (some ⟨b, 0, none⟩)] w fun e w' => e = .returned (.string ⟨l.toArray⟩) ∧ BlKept w w' b (.slice (some ⟨g, 0, none⟩) l.length cap) := by
 have hl0 : l.length ≠ 0 := by simpa using h0
 have c1 : w.drew.cell? ⟨b, 1, none⟩ = some (.slice (some ⟨g, 0, none⟩) l.length cap) := by
  have : w.drew.heap[b]? = some (.cells #[p, .slice (some ⟨g, 0, none⟩) l.length cap] 76 (0, 0)) := hb
  rw [Lib.cell_of_heap this]; rfl
 have hSD : (Builtin.unsafeSliceData_ #[74] 114 #[.slice (some ⟨g, 0, none⟩) l.length cap]).run Tryz.prog w.drew = .ok (.pointer (some ⟨g, 0, none⟩)) w.drew :=
  Lib.run_unsafeSliceData_row _ _ _ _ _ _ (by omega)
 have hUS : (Builtin.unsafeString_ #[114, 3] 9 #[.pointer (some ⟨g, 0, none⟩), .int .i64 l.length]).run Tryz.prog w.drew = .ok (.string ⟨l.toArray⟩) (w.drew.freeze ⟨g, 0, none⟩ l.length) :=
  Lib.run_unsafeString_row w.drew 114 3 9 5 Tryz.underlying114 byt_cells g cur.size (by have hg' : w.drew.heap[g]? = some (.cells cur 5 (0, 0)) := hg; simp [World.shape?, hg']) l h0 (by omega) (by unfold maxLen at hcm; omega) hc
 have hk := kept_freeze w b g l.length cap
 clear hc
 have mx := mixed
 go_enter Tryz.func29, Tryz.ntmps29
 go_wp2
 go_region_o
 all_goals (go_wp2; go_ret; exact ⟨rfl, hk⟩)
theorem usn (W : World) (q : Option Addr) : (Builtin.unsafeString_ #[114, 3] 9 #[.pointer q, .int .i64 0]).run Tryz.prog W = .ok (.string .empty) W := Lib.run_unsafeString_none W _ _ _ q
theorem str_nil (b : Nat) (p : Value) (w : World) (hb : w.heap[b]? = some (.cells #[p, .slice none 0 0] 76 (0, 0))) :
 Calls Tryz.prog 29 #[.pointer (some ⟨b, 0, none⟩)] w fun e w' => e = .returned (.string ⟨#[]⟩) ∧ BlKept w w' b (.slice none 0 0) := by
 have hUS := usn
 have c1 : w.drew.cell? ⟨b, 1, none⟩ = some (.slice none 0 0) := by
  have : w.drew.heap[b]? = some (.cells #[p, .slice none 0 0] 76 (0, 0)) := hb
  rw [Lib.cell_of_heap this]; rfl
 have hSD : (Builtin.unsafeSliceData_ #[74] 114 #[.slice none 0 0]).run Tryz.prog w.drew = .ok (.pointer none) w.drew := rfl
 have hk := kept_drew w b (.slice none 0 0)
 have mx := mixed
 go_enter Tryz.func29, Tryz.ntmps29
 go_wp2
 go_region_o
 all_goals (go_wp2; go_ret; exact ⟨rfl, hk⟩)
theorem str_room (b g cap : Nat) (p : Value) (w : World) (hc0 : cap ≠ 0) (hb : w.heap[b]? = some (.cells #[p, .slice (some ⟨g, 0, none⟩) 0 cap] 76 (0, 0))) :
 Calls Tryz.prog 29 #[.pointer (some ⟨b, 0, none⟩)] w fun e w' => e = .returned (.string ⟨#[]⟩) ∧ BlKept w w' b (.slice (some ⟨g, 0, none⟩) 0 cap) := by
 have hUS := usn
 have c1 : w.drew.cell? ⟨b, 1, none⟩ = some (.slice (some ⟨g, 0, none⟩) 0 cap) := by
  have : w.drew.heap[b]? = some (.cells #[p, .slice (some ⟨g, 0, none⟩) 0 cap] 76 (0, 0)) := hb
  rw [Lib.cell_of_heap this]; rfl
 have hSD : (Builtin.unsafeSliceData_ #[74] 114 #[.slice (some ⟨g, 0, none⟩) 0 cap]).run Tryz.prog w.drew = .ok (.pointer (some ⟨g, 0, none⟩)) w.drew :=
  Lib.run_unsafeSliceData_row _ _ _ _ _ _ hc0
 have hk := kept_drew w b (.slice (some ⟨g, 0, none⟩) 0 cap)
 clear hc0
 have mx := mixed
 go_enter Tryz.func29, Tryz.ntmps29
 go_wp2
 go_region_o
 all_goals (go_wp2; go_ret; exact ⟨rfl, hk⟩)
theorem str_none (b g : Nat) (p : Value) (cur : Array Value) (w : World) (hb : w.heap[b]? = some (.cells #[p, .slice (some ⟨g, 0, none⟩) 0 0] 76 (0, 0))) (hg : w.heap[g]? = some (.cells cur 5 (0, 0))) :
 Calls Tryz.prog 29 #[.pointer (some ⟨b, 0, none⟩)] w fun e w' => e = .returned (.string ⟨#[]⟩) ∧ BlKept w w' b (.slice (some ⟨g, 0, none⟩) 0 0) := by
 have hUS := usn
 have hlt : b < w.heap.size := (Array.getElem?_eq_some_iff.1 hb).1
 have c1 : w.drew.cell? ⟨b, 1, none⟩ = some (.slice (some ⟨g, 0, none⟩) 0 0) := by
  have : w.drew.heap[b]? = some (.cells #[p, .slice (some ⟨g, 0, none⟩) 0 0] 76 (0, 0)) := hb
  rw [Lib.cell_of_heap this]; rfl
 have hSD : (Builtin.unsafeSliceData_ #[74] 114 #[.slice (some ⟨g, 0, none⟩) 0 0]).run Tryz.prog w.drew = .ok (.pointer (some ⟨w.drew.heap.size, 0, none⟩)) (w.drew.alloc (.view ⟨g, 0, none⟩ 5)) :=
  Lib.run_unsafeSliceData_zero w.drew _ _ 5 Tryz.underlying114 ⟨g, 0, none⟩ 0 (5, cur.size) (by have hg' : w.drew.heap[g]? = some (.cells cur 5 (0, 0)) := hg; simp [World.shape?, hg'])
 have c2 : (w.drew.alloc (.view ⟨g, 0, none⟩ 5)).cell? ⟨b, 1, none⟩ = some (.slice (some ⟨g, 0, none⟩) 0 0) := by
  have : (w.drew.alloc (.view ⟨g, 0, none⟩ 5)).heap[b]? = _ := (heap_old w.drew _ hlt).trans hb
  rw [Lib.cell_of_heap this]; rfl
 have c3 : (w.alloc (.view ⟨g, 0, none⟩ 5)).drew.cell? ⟨b, 1, none⟩ = some (.slice (some ⟨g, 0, none⟩) 0 0) := c2
 have c0 : w.cell? ⟨b, 1, none⟩ = some (.slice (some ⟨g, 0, none⟩) 0 0) := c1
 have hk := kept_alloc w b (.slice (some ⟨g, 0, none⟩) 0 0) (.view ⟨g, 0, none⟩ 5)
 have mx := mixed
 go_enter Tryz.func29, Tryz.ntmps29
 go_wp2
 go_region_o
 all_goals (go_wp2; go_ret; exact ⟨rfl, hk⟩)
theorem str_walk (B b : Nat) (p v : Value) (s : ByteArray) (w : World) (hb : w.heap[b]? = some (.cells #[p, v] 76 (0, 0))) (hown : w.ownsRow B 5 1 v s.size (bytV s)) :
 Calls Tryz.prog 29 #[.pointer (some ⟨b, 0, none⟩)] w fun e w' => e = .returned (.string s) ∧ BlKept w w' b v := by
 have hsz : s.size = s.data.toList.length := by rw [Array.length_toList]; rfl
 rcases hown.2 with ⟨rfl, hn⟩ | ⟨g, cap, cur, rfl, hbg, hg, hnc, hcm, hcs, htk⟩
 ·obtain rfl : s = ⟨#[]⟩ := by
   obtain ⟨⟨l⟩⟩ := s
   have : l = [] := List.eq_nil_of_length_eq_zero (by simpa using hsz.symm.trans hn)
   rw [this]
  exact str_nil b p w hb
 ·by_cases h0 : s.data.toList = []
  ·obtain rfl : s = ⟨#[]⟩ := by
    obtain ⟨⟨l⟩⟩ := s
    rw [show l = [] from h0]
   by_cases hc0 : cap = 0
   ·subst hc0
    exact str_none b g p cur w hb hg
   ·exact str_room b g cap p w hc0 hb
  ·rw [hsz] at hb hnc ⊢
   have := str_some b g cap p s.data.toList cur w h0 hb hg hnc hcm (by simpa using hcs) fun j x hx => hown.cells (g := g) rfl j (.int .u8 x.toNat) (by simp [bytV, hx])
   exact this
end Go.Proofs.Tryz
end

section
open Go Go.Shelf
namespace Go.Proofs
def ly_LyIt_ren : Shelf.Ren := ⟨fun | 171 => 51 | 243 => 74 | 246 => 119 | 283 => 144 | 284 => 145 | 285 => 146 | 286 => 147 | 129 => 100 | 317 => 164 | 318 => 165 | 319 => 166 | 320 => 167 | 337 => 173 | 338 => 174 | n => n, fun | 3 => 3 | 9 => 9 | 2 => 2 | 4 => 4 | 171 => 189 | 0 => 0 | 53 => 153 | 37 => 74 | 5 => 5 | 173 => 191 | 212 => 212 | 51 => 151 | 20 => 20 | 213 => 213 | 46 => 123 | 232 => 224 | 233 => 225 | n => n, fun | 17 => 3 | 18 => 6 | 19 => 7 | n => n⟩
theorem ly_LyIt : Go.Proofs.LaysM.n171 Tryz.prog ly_LyIt_ren where
 mixed := by kernel_rfl
 f129 := Tryz.func100.trans (congrArg some (by kernel_rfl))
 f171 := Tryz.func51.trans (congrArg some (by kernel_rfl))
 f243 := Tryz.func74.trans (congrArg some (by kernel_rfl))
 f246 := Tryz.func119.trans (congrArg some (by kernel_rfl))
 f283 := Tryz.func144.trans (congrArg some (by kernel_rfl))
 f284 := Tryz.func145.trans (congrArg some (by kernel_rfl))
 f285 := Tryz.func146.trans (congrArg some (by kernel_rfl))
 f286 := Tryz.func147.trans (congrArg some (by kernel_rfl))
 f317 := Tryz.func164.trans (congrArg some (by kernel_rfl))
 f318 := Tryz.func165.trans (congrArg some (by kernel_rfl))
 f319 := Tryz.func166.trans (congrArg some (by kernel_rfl))
 f320 := Tryz.func167.trans (congrArg some (by kernel_rfl))
 f337 := Tryz.func173.trans (congrArg some (by kernel_rfl))
 f338 := Tryz.func174.trans (congrArg some (by kernel_rfl))
 t0 := Tryz.underlying0
 a0 := Tryz.isAgg0
 z0 := Tryz.sizeOf0
 v0 := Tryz.zeroValue0
 t2 := Tryz.underlying2
 a2 := Tryz.isAgg2
 z2 := Tryz.sizeOf2
 v2 := Tryz.zeroValue2
 t3 := Tryz.underlying3
 a3 := Tryz.isAgg3
 z3 := Tryz.sizeOf3
 v3 := Tryz.zeroValue3
 t4 := Tryz.underlying4
 a4 := Tryz.isAgg4
 z4 := Tryz.sizeOf4
 v4 := Tryz.zeroValue4
 t5 := Tryz.underlying5
 a5 := Tryz.isAgg5
 z5 := Tryz.sizeOf5
 v5 := Tryz.zeroValue5
 t9 := Tryz.underlying9
 a9 := Tryz.isAgg9
 z9 := Tryz.sizeOf9
 v9 := Tryz.zeroValue9
 t20 := Tryz.underlying20
 a20 := Tryz.isAgg20
 z20 := Tryz.sizeOf20
 v20 := Tryz.zeroValue20
 t37 := Tryz.underlying74
 a37 := Tryz.isAgg74
 z37 := Tryz.sizeOf74
 v37 := Tryz.zeroValue74
 t46 := Tryz.underlying123
 a46 := Tryz.isAgg123
 z46 := Tryz.sizeOf123
 v46 := Tryz.zeroValue123
 t51 := Tryz.underlying151
 a51 := Tryz.isAgg151
 z51 := Tryz.sizeOf151
 v51 := Tryz.zeroValue151
 t53 := Tryz.underlying153
 a53 := Tryz.isAgg153
 z53 := Tryz.sizeOf153
 v53 := Tryz.zeroValue153
 t171 := Tryz.underlying189
 a171 := Tryz.isAgg189
 z171 := Tryz.sizeOf189
 v171 := Tryz.zeroValue189
 t173 := Tryz.underlying191
 a173 := Tryz.isAgg191
 z173 := Tryz.sizeOf191
 v173 := Tryz.zeroValue191
 t212 := Tryz.underlying212
 a212 := Tryz.isAgg212
 z212 := Tryz.sizeOf212
 v212 := Tryz.zeroValue212
 t213 := Tryz.underlying213
 a213 := Tryz.isAgg213
 z213 := Tryz.sizeOf213
 t232 := Tryz.underlying224
 a232 := Tryz.isAgg224
 z232 := Tryz.sizeOf224
 v232 := Tryz.zeroValue224
 t233 := Tryz.underlying225
 a233 := Tryz.isAgg225
 z233 := Tryz.sizeOf225
 v233 := Tryz.zeroValue225
 g17 := by kernel_rfl
 g18 := by kernel_rfl
 g19 := by kernel_rfl
 i0 := by kernel_rfl
 i2 := by kernel_rfl
 i3 := by kernel_rfl
 i4 := by kernel_rfl
 i5 := by kernel_rfl
 i9 := by kernel_rfl
 i20 := by kernel_rfl
 i37 := by kernel_rfl
 i46 := by kernel_rfl
 i51 := by kernel_rfl
 i53 := by kernel_rfl
 i171 := by kernel_rfl
 i173 := by kernel_rfl
 i212 := by kernel_rfl
 i232 := by kernel_rfl
 i233 := by kernel_rfl
 m17 := by kernel_rfl
 m18 := by kernel_rfl
 m19 := by kernel_rfl
end Go.Proofs
end

section
open Go Go.Shelf
namespace Go.Proofs
def ly_LyAt_ren : Shelf.Ren := ⟨fun | 172 => 57 | 244 => 78 | 245 => 79 | 247 => 124 | 279 => 125 | 280 => 126 | 281 => 127 | 282 => 128 | 287 => 152 | 316 => 153 | 171 => 51 | 205 => 154 | 321 => 169 | 322 => 170 | 243 => 74 | 246 => 119 | 283 => 144 | 284 => 145 | 285 => 146 | 286 => 147 | 129 => 100 | 317 => 164 | 318 => 165 | 319 => 166 | 320 => 167 | 337 => 173 | 338 => 174 | n => n, fun | 9 => 9 | 3 => 3 | 75 => 78 | 76 => 79 | 4 => 4 | 5 => 5 | 167 => 169 | 37 => 74 | 0 => 0 | 85 => 170 | 2 => 2 | 168 => 172 | 53 => 153 | 175 => 197 | 46 => 123 | 210 => 201 | 127 => 114 | 145 => 217 | 143 => 215 | 21 => 21 | 171 => 189 | 173 => 191 | 212 => 212 | 51 => 151 | 20 => 20 | 213 => 213 | 232 => 224 | 233 => 225 | 80 => 81 | n => n, fun | 15 => 0 | 16 => 1 | 17 => 3 | 18 => 6 | 19 => 7 | n => n⟩
theorem ly_LyAt : Go.Proofs.LaysC.n172 Tryz.prog ly_LyAt_ren where
 mixed := by kernel_rfl
 f129 := Tryz.func100.trans (congrArg some (by kernel_rfl))
 f171 := Tryz.func51.trans (congrArg some (by kernel_rfl))
 f172 := Tryz.func57.trans (congrArg some (by kernel_rfl))
 f205 := Tryz.func154.trans (congrArg some (by kernel_rfl))
 f243 := Tryz.func74.trans (congrArg some (by kernel_rfl))
 f244 := Tryz.func78.trans (congrArg some (by kernel_rfl))
 f245 := Tryz.func79.trans (congrArg some (by kernel_rfl))
 f246 := Tryz.func119.trans (congrArg some (by kernel_rfl))
 f247 := Tryz.func124.trans (congrArg some (by kernel_rfl))
 f279 := Tryz.func125.trans (congrArg some (by kernel_rfl))
 f280 := Tryz.func126.trans (congrArg some (by kernel_rfl))
 f281 := Tryz.func127.trans (congrArg some (by kernel_rfl))
 f282 := Tryz.func128.trans (congrArg some (by kernel_rfl))
 f283 := Tryz.func144.trans (congrArg some (by kernel_rfl))
 f284 := Tryz.func145.trans (congrArg some (by kernel_rfl))
 f285 := Tryz.func146.trans (congrArg some (by kernel_rfl))
 f286 := Tryz.func147.trans (congrArg some (by kernel_rfl))
 f287 := Tryz.func152.trans (congrArg some (by kernel_rfl))
 f316 := Tryz.func153.trans (congrArg some (by kernel_rfl))
 f317 := Tryz.func164.trans (congrArg some (by kernel_rfl))
 f318 := Tryz.func165.trans (congrArg some (by kernel_rfl))
 f319 := Tryz.func166.trans (congrArg some (by kernel_rfl))
 f320 := Tryz.func167.trans (congrArg some (by kernel_rfl))
 f321 := Tryz.func169.trans (congrArg some (by kernel_rfl))
 f322 := Tryz.func170.trans (congrArg some (by kernel_rfl))
 f337 := Tryz.func173.trans (congrArg some (by kernel_rfl))
 f338 := Tryz.func174.trans (congrArg some (by kernel_rfl))
 t0 := Tryz.underlying0
 a0 := Tryz.isAgg0
 z0 := Tryz.sizeOf0
 v0 := Tryz.zeroValue0
 t2 := Tryz.underlying2
 a2 := Tryz.isAgg2
 z2 := Tryz.sizeOf2
 v2 := Tryz.zeroValue2
 t3 := Tryz.underlying3
 a3 := Tryz.isAgg3
 z3 := Tryz.sizeOf3
 v3 := Tryz.zeroValue3
 t4 := Tryz.underlying4
 a4 := Tryz.isAgg4
 z4 := Tryz.sizeOf4
 v4 := Tryz.zeroValue4
 t5 := Tryz.underlying5
 a5 := Tryz.isAgg5
 z5 := Tryz.sizeOf5
 v5 := Tryz.zeroValue5
 t9 := Tryz.underlying9
 a9 := Tryz.isAgg9
 z9 := Tryz.sizeOf9
 v9 := Tryz.zeroValue9
 t20 := Tryz.underlying20
 a20 := Tryz.isAgg20
 z20 := Tryz.sizeOf20
 v20 := Tryz.zeroValue20
 t21 := Tryz.underlying21
 a21 := Tryz.isAgg21
 z21 := Tryz.sizeOf21
 v21 := Tryz.zeroValue21
 t37 := Tryz.underlying74
 a37 := Tryz.isAgg74
 z37 := Tryz.sizeOf74
 v37 := Tryz.zeroValue74
 t46 := Tryz.underlying123
 a46 := Tryz.isAgg123
 z46 := Tryz.sizeOf123
 v46 := Tryz.zeroValue123
 t51 := Tryz.underlying151
 a51 := Tryz.isAgg151
 z51 := Tryz.sizeOf151
 v51 := Tryz.zeroValue151
 t53 := Tryz.underlying153
 a53 := Tryz.isAgg153
 z53 := Tryz.sizeOf153
 v53 := Tryz.zeroValue153
 t75 := Tryz.underlying78
 a75 := Tryz.isAgg78
 z75 := Tryz.sizeOf78
 v75 := Tryz.zeroValue78
 t76 := Tryz.underlying79
 a76 := Tryz.isAgg79
 z76 := Tryz.sizeOf79
 v76 := Tryz.zeroValue79
 t85 := Tryz.underlying170
 a85 := Tryz.isAgg170
 z85 := Tryz.sizeOf170
 v85 := Tryz.zeroValue170
 t127 := Tryz.underlying114
 a127 := Tryz.isAgg114
 z127 := Tryz.sizeOf114
 v127 := Tryz.zeroValue114
 t143 := Tryz.underlying215
 a143 := Tryz.isAgg215
 z143 := Tryz.sizeOf215
 v143 := Tryz.zeroValue215
 t145 := Tryz.underlying217
 a145 := Tryz.isAgg217
 z145 := Tryz.sizeOf217
 v145 := Tryz.zeroValue217
 t167 := Tryz.underlying169
 a167 := Tryz.isAgg169
 z167 := Tryz.sizeOf169
 v167 := Tryz.zeroValue169
 t168 := Tryz.underlying172
 a168 := Tryz.isAgg172
 z168 := Tryz.sizeOf172
 v168 := Tryz.zeroValue172
 t171 := Tryz.underlying189
 a171 := Tryz.isAgg189
 z171 := Tryz.sizeOf189
 v171 := Tryz.zeroValue189
 t173 := Tryz.underlying191
 a173 := Tryz.isAgg191
 z173 := Tryz.sizeOf191
 v173 := Tryz.zeroValue191
 t175 := Tryz.underlying197
 a175 := Tryz.isAgg197
 z175 := Tryz.sizeOf197
 v175 := Tryz.zeroValue197
 t210 := Tryz.underlying201
 a210 := Tryz.isAgg201
 z210 := Tryz.sizeOf201
 v210 := Tryz.zeroValue201
 t212 := Tryz.underlying212
 a212 := Tryz.isAgg212
 z212 := Tryz.sizeOf212
 v212 := Tryz.zeroValue212
 t213 := Tryz.underlying213
 a213 := Tryz.isAgg213
 z213 := Tryz.sizeOf213
 t232 := Tryz.underlying224
 a232 := Tryz.isAgg224
 z232 := Tryz.sizeOf224
 v232 := Tryz.zeroValue224
 t233 := Tryz.underlying225
 a233 := Tryz.isAgg225
 z233 := Tryz.sizeOf225
 v233 := Tryz.zeroValue225
 g15 := by kernel_rfl
 g16 := by kernel_rfl
 g17 := by kernel_rfl
 g18 := by kernel_rfl
 g19 := by kernel_rfl
 t80 := Tryz.underlying81
 a80 := Tryz.isAgg81
 z80 := Tryz.sizeOf81
 v80 := Tryz.zeroValue81
 i0 := by kernel_rfl
 i2 := by kernel_rfl
 i3 := by kernel_rfl
 i4 := by kernel_rfl
 i5 := by kernel_rfl
 i9 := by kernel_rfl
 i20 := by kernel_rfl
 i21 := by kernel_rfl
 i37 := by kernel_rfl
 i46 := by kernel_rfl
 i51 := by kernel_rfl
 i53 := by kernel_rfl
 i75 := by kernel_rfl
 i76 := by kernel_rfl
 i80 := by kernel_rfl
 i85 := by kernel_rfl
 i127 := by kernel_rfl
 i143 := by kernel_rfl
 i145 := by kernel_rfl
 i167 := by kernel_rfl
 i168 := by kernel_rfl
 i171 := by kernel_rfl
 i173 := by kernel_rfl
 i175 := by kernel_rfl
 i210 := by kernel_rfl
 i212 := by kernel_rfl
 i232 := by kernel_rfl
 i233 := by kernel_rfl
 m15 := by kernel_rfl
 m16 := by kernel_rfl
 m17 := by kernel_rfl
 m18 := by kernel_rfl
 m19 := by kernel_rfl
 c0 := by kernel_rfl
 c2 := by kernel_rfl
 c3 := by kernel_rfl
 c4 := by kernel_rfl
 c5 := by kernel_rfl
 c9 := by kernel_rfl
 c20 := by kernel_rfl
 c21 := by kernel_rfl
 c37 := by kernel_rfl
 c46 := by kernel_rfl
 c51 := by kernel_rfl
 c53 := by kernel_rfl
 c75 := by kernel_rfl
 c76 := by kernel_rfl
 c80 := by kernel_rfl
 c85 := by kernel_rfl
 c127 := by kernel_rfl
 c143 := by kernel_rfl
 c145 := by kernel_rfl
 c167 := by kernel_rfl
 c168 := by kernel_rfl
 c171 := by kernel_rfl
 c173 := by kernel_rfl
 c175 := by kernel_rfl
 c210 := by kernel_rfl
 c212 := by kernel_rfl
 c213 := by kernel_rfl
 c232 := by kernel_rfl
 c233 := by kernel_rfl
end Go.Proofs
end

section
open Go Go.Shelf
namespace Go.Proofs
def ly_LySp_ren : Shelf.Ren := ⟨fun | 146 => 56 | 221 => 77 | 268 => 121 | 138 => 122 | 143 => 123 | 195 => 149 | 197 => 150 | 218 => 151 | 219 => 129 | 260 => 168 | 217 => 155 | 225 => 156 | 224 => 157 | 267 => 158 | 266 => 171 | 314 => 172 | n => n, fun | 9 => 9 | 31 => 88 | 3 => 3 | 4 => 4 | 0 => 0 | 105 => 194 | 21 => 21 | 5 => 5 | 46 => 123 | 119 => 220 | 139 => 223 | 138 => 222 | 146 => 218 | 51 => 151 | n => n, fun | 1 => 2 | 3 => 4 | 4 => 5 | n => n⟩
theorem ly_LySp : Go.Proofs.Lays.n146 Tryz.prog ly_LySp_ren where
 mixed := by kernel_rfl
 f138 := Tryz.func122.trans (congrArg some (by kernel_rfl))
 f143 := Tryz.func123.trans (congrArg some (by kernel_rfl))
 f146 := Tryz.func56.trans (congrArg some (by kernel_rfl))
 f195 := Tryz.func149.trans (congrArg some (by kernel_rfl))
 f197 := Tryz.func150.trans (congrArg some (by kernel_rfl))
 f217 := Tryz.func155.trans (congrArg some (by kernel_rfl))
 f218 := Tryz.func151.trans (congrArg some (by kernel_rfl))
 f219 := Tryz.func129.trans (congrArg some (by kernel_rfl))
 f221 := Tryz.func77.trans (congrArg some (by kernel_rfl))
 f224 := Tryz.func157.trans (congrArg some (by kernel_rfl))
 f225 := Tryz.func156.trans (congrArg some (by kernel_rfl))
 f260 := Tryz.func168.trans (congrArg some (by kernel_rfl))
 f266 := Tryz.func171.trans (congrArg some (by kernel_rfl))
 f267 := Tryz.func158.trans (congrArg some (by kernel_rfl))
 f268 := Tryz.func121.trans (congrArg some (by kernel_rfl))
 f314 := Tryz.func172.trans (congrArg some (by kernel_rfl))
 t0 := Tryz.underlying0
 a0 := Tryz.isAgg0
 z0 := Tryz.sizeOf0
 v0 := Tryz.zeroValue0
 t3 := Tryz.underlying3
 a3 := Tryz.isAgg3
 z3 := Tryz.sizeOf3
 v3 := Tryz.zeroValue3
 t4 := Tryz.underlying4
 a4 := Tryz.isAgg4
 z4 := Tryz.sizeOf4
 v4 := Tryz.zeroValue4
 t5 := Tryz.underlying5
 a5 := Tryz.isAgg5
 z5 := Tryz.sizeOf5
 v5 := Tryz.zeroValue5
 t9 := Tryz.underlying9
 a9 := Tryz.isAgg9
 z9 := Tryz.sizeOf9
 v9 := Tryz.zeroValue9
 t21 := Tryz.underlying21
 a21 := Tryz.isAgg21
 z21 := Tryz.sizeOf21
 v21 := Tryz.zeroValue21
 t31 := Tryz.underlying88
 a31 := Tryz.isAgg88
 z31 := Tryz.sizeOf88
 v31 := Tryz.zeroValue88
 t46 := Tryz.underlying123
 a46 := Tryz.isAgg123
 z46 := Tryz.sizeOf123
 v46 := Tryz.zeroValue123
 t51 := Tryz.underlying151
 a51 := Tryz.isAgg151
 z51 := Tryz.sizeOf151
 v51 := Tryz.zeroValue151
 t105 := Tryz.underlying194
 a105 := Tryz.isAgg194
 z105 := Tryz.sizeOf194
 v105 := Tryz.zeroValue194
 t119 := Tryz.underlying220
 a119 := Tryz.isAgg220
 z119 := Tryz.sizeOf220
 t138 := Tryz.underlying222
 a138 := Tryz.isAgg222
 z138 := Tryz.sizeOf222
 v138 := Tryz.zeroValue222
 t139 := Tryz.underlying223
 a139 := Tryz.isAgg223
 z139 := Tryz.sizeOf223
 v139 := Tryz.zeroValue223
 t146 := Tryz.underlying218
 a146 := Tryz.isAgg218
 z146 := Tryz.sizeOf218
 v146 := Tryz.zeroValue218
 g1 := by kernel_rfl
 g3 := by kernel_rfl
 g4 := by kernel_rfl
end Go.Proofs
end

section
namespace Go.Proofs.Tryz
open Go Go.Vm
open Go.RowKit (Below)
set_option maxRecDepth 100000
set_option maxHeartbeats 4000000
theorem xv_str (v : Nat) (s : ByteArray) : EvX Tryz.prog 29 [.ptr 1000 0] [(1000, .bld v 76 5 s)] (.d (.str s)) [(1000, .gone)] := by
 refine ⟨⟨_, Tryz.func29, rfl, rfl⟩, fun B0 w A L vals hB0 hg hA hsz hreps hmen hH => ?_⟩
 obtain ⟨v1, rfl⟩ := vals1 hsz rfl
 have r1 := hreps 0 _ v1 rfl rfl
 cases r1
 have hl : lk [(1000, Bx.bld v 76 5 s)] 1000 = some (.bld v 76 5 s) := by rw [lk_c, if_pos rfl]
 obtain ⟨q1, ⟨p, q2, q3⟩, q4, q5, q6⟩ := hH.br 1000 _ hl
 have hclm : ∀ {g}, own L 1000 (.bld v 76 5 s) g → claims L [(1000, Bx.bld v 76 5 s)] g := fun ho => ⟨1000, _, hl, ho⟩
 refine (str_walk B0 (L.ι 1000) p (L.sub 1000 v 0) s w q2 q4).mono ?_
 rintro e w' ⟨rfl, hk⟩
 have hAk : ∀ g o, A g o → w'.heap[g]? = w.heap[g]? := fun g o ha => hk.same g (hA g o ha) (fun e => q6 g (.inl e) o ha) (fun e => q6 g (.inr e) o ha)
 refine ⟨_, A, L, rfl, .d (.str _), hk.os, ⟨hk.tape, trivial⟩, hk.output, hk.size, fun k hks hn => hk.same k hks (fun e => hn (hclm (.inl e))) (fun e => hn (hclm (.inr e))), fun _ _ h => h,
  fun g o ha => World.cell?_of_block (w := w) (hAk g o ha), fun g o ha => Nat.lt_of_lt_of_le (hA g o ha) hk.size, fun g o ha => .inl ha, ⟨fun b x hx => ?_, fun b x g hx ho => ?_, fun b b' x x' g hx hx' _ _ => ?_, fun b x b' hx hm => ?_⟩,
  fun g hg => ?_, fun b _ _ => .rfl', fun b hb => by cases hb⟩
 ·obtain ⟨rfl, rfl⟩ := lk_one hx; trivial
 ·obtain ⟨rfl, rfl⟩ := lk_one hx; exact ho.elim
 ·rw [(lk_one hx).1, (lk_one hx').1]
 ·obtain ⟨rfl, rfl⟩ := lk_one hx; cases hm
 ·obtain ⟨b, x, hx, ho⟩ := hg
  obtain ⟨rfl, rfl⟩ := lk_one hx
  exact ho.elim
/-! The library's functions at this program. -/
theorem ev_Itoa (n : Int) (h : -9223372036854775808 ≤ n ∧ n ≤ 9223372036854775807) : Ev Tryz.prog 51 [.int .i64 n] (.str (itoaB n)) :=
 Ev.itoa ly_LyIt _ (by kernel_rfl) (List.mem_cons_self) n h
theorem itoaB_size (n : Int) (h : -9223372036854775808 ≤ n ∧ n ≤ 9223372036854775807) : (itoaB n).size ≤ 21 := by
 have := Lib.itoa_length_le n h.1 h.2
 show (Lib.itoa n).toArray.size ≤ 21
 simpa using this
theorem ev_Atoi (s : ByteArray) (hs : s.size ≤ 281474976710656) : Ev Tryz.prog 57 [.str s] (atoiD s) :=
 Ev.atoi ly_LyAt (List.mem_cons_of_mem _ (List.mem_cons_of_mem _ List.mem_cons_self)) (List.mem_cons_of_mem _ (List.mem_cons_of_mem _ (List.mem_cons_of_mem _ List.mem_cons_self))) s hs
theorem ev_Split (s sep : ByteArray) (hs : s.size < 4294967281) (h1 : 1 ≤ sep.size) : Ev Tryz.prog 56 [.str s, .str sep] (.sl 1 ((splitD s sep).map .str)) :=
 Ev.split ly_LySp (by kernel_rfl) (List.mem_cons_of_mem _ List.mem_cons_self) s sep hs h1
end Go.Proofs.Tryz
end

section
namespace Go.Plain
open Go Go.Lib
theorem dig_abs (m : Int) : (if m.tmod 10 < 0 - m.tmod 10 then 0 - m.tmod 10 else m.tmod 10) = ((m.natAbs % 10 : Nat) : Int) := by
 rcases Int.le_total 0 m with h | h
 ·obtain ⟨k, rfl⟩ := Int.eq_ofNat_of_zero_le h
  have : (k : Int).tmod 10 = ((k % 10 : Nat) : Int) := by
   rw [Int.tmod_eq_emod_of_nonneg (by omega)]; omega
  rw [this]
  simp only [Int.natAbs_natCast]
  split <;> omega
 ·obtain ⟨k, hk⟩ := Int.eq_ofNat_of_zero_le (a := -m) (by omega)
  obtain rfl : m = -(k : Int) := by omega
  have : (-(k : Int)).tmod 10 = -((k % 10 : Nat) : Int) := by
   rw [Int.neg_tmod, Int.tmod_eq_emod_of_nonneg (by omega)]; omega
  rw [this]
  simp only [Int.natAbs_neg, Int.natAbs_natCast]
  split <;> omega
theorem itoa_sign (n : Int) : Lib.itoa n = (if n < 0 then [45] else []) ++ decDigits n.natAbs := by
 unfold Lib.itoa
 split
 ·rfl
 ·have : n.toNat = n.natAbs := by omega
  rw [this]; rfl
theorem nDig_le : ∀ (k u : Nat), u < 10 ^ (k + 1) → nDigits u ≤ k + 1
 | 0, u, h => by rw [nDigits_small (by simpa using h)]; omega
 | k + 1, u, h => by
  by_cases hu : u < 10
  ·rw [nDigits_small hu]; omega
  ·rw [nDigits_big hu]
   have := nDig_le k (u / 10) (by rw [Nat.pow_succ] at h; omega)
   omega
theorem dig_len {k u : Nat} (h : u < 10 ^ (k + 1)) : (decDigits u).length ≤ k + 1 := by rw [decDigits_length]; exact nDig_le k u h
theorem u8_ofNat {n : Nat} (h : n < 256) : (UInt8.ofNat n).toNat = n := by simp [Nat.mod_eq_of_lt h]
theorem decFrom_snoc : ∀ (l : List UInt8) (acc x : Nat) (b : UInt8) (d : Nat), decFrom acc l = some x → digitVal b = some d → decFrom acc (l ++ [b]) = some (x * 10 + d)
 | [], acc, x, b, d, h, hb => by
  cases h
  simp [decFrom, hb]
 | a :: l, acc, x, b, d, h, hb => by
  simp only [decFrom, List.cons_append] at h ⊢
  split at h
  ·exact decFrom_snoc l _ x b d h hb
  ·cases h
theorem digitVal_dig {d : Nat} (h : d < 10) : digitVal (UInt8.ofNat (48 + d)) = some d := by
 unfold digitVal
 rw [u8_ofNat (by omega), if_pos (by omega)]
 congr 1
 omega
theorem decFrom_dig (u : Nat) : decFrom 0 (decDigits u) = some u := by
 induction u using Nat.strongRecOn with
 | ind u ih =>
  by_cases h : u < 10
  ·rw [decDigits_one h]
   simp only [decFrom, digitVal_dig h, Nat.zero_mul, Nat.zero_add]
  ·rw [decDigits, dif_neg h, decFrom_snoc _ _ _ _ _ (ih (u / 10) (by omega)) (digitVal_dig (by omega : u % 10 < 10))]
   congr 1
   omega
theorem dig_ne (u : Nat) : decDigits u ≠ [] := by
 intro h
 have := decFrom_dig u
 by_cases hu : u < 10
 ·rw [decDigits_one hu] at h; cases h
 ·rw [decDigits, dif_neg hu] at h; simp at h
theorem dig_mem : ∀ (u : Nat) (b : UInt8), b ∈ decDigits u → 48 ≤ b.toNat ∧ b.toNat ≤ 57 := by
 intro u
 induction u using Nat.strongRecOn with
 | ind u ih =>
  intro b hb
  by_cases h : u < 10
  ·rw [decDigits_one h, List.mem_singleton] at hb
   rw [hb, u8_ofNat (by omega)]; omega
  ·rw [decDigits, dif_neg h, List.mem_append, List.mem_singleton] at hb
   rcases hb with hb | hb
   ·exact ih (u / 10) (by omega) b hb
   ·rw [hb, u8_ofNat (by omega)]; omega
theorem decNat_dig (u : Nat) : decNat (decDigits u) = some u := by
 have := dig_ne u
 unfold decNat
 rw [if_neg (by simpa using this)]
 exact decFrom_dig u
theorem atoi_dig (u : Nat) : atoi (decDigits u) = some (u : Int) := by
 cases h : decDigits u with
 | nil => exact absurd h (dig_ne u)
 | cons b r =>
  have hb := dig_mem u b (by rw [h]; exact List.mem_cons_self)
  have h1 : ¬ b = 45 := fun e => by rw [e] at hb; revert hb; decide
  have h2 : ¬ b = 43 := fun e => by rw [e] at hb; revert hb; decide
  simp only [atoi, beq_iff_eq, h1, h2, if_false]
  rw [← h, decNat_dig]
  rfl
theorem atoi_itoa (n : Int) (h : n.natAbs < 1000000000000000) : atoiAll (itoa n) = .ok n := by
 have hl : (itoa n).length ≤ 18 := by
  unfold itoa
  have := dig_len (k := 14) (u := n.natAbs) (by simpa using h)
  split
  ·simp; omega
  ·have e : n.toNat = n.natAbs := by omega
   rw [e]; omega
 rw [atoiAll_short _ hl]
 have : atoi (itoa n) = some n := by
  unfold itoa
  split
  ·rename_i hn
   simp only [atoi, beq_self_eq_true, if_true, decNat_dig]
   simp only [Option.map_some]
   congr 1
   omega
  ·rename_i hn
   rw [atoi_dig]
   congr 1
   omega
 rw [this]
 rfl
def spl (c : UInt8) : List UInt8 → List (List UInt8)
 | [] => [[]]
 | b :: r => if b = c then [] :: spl c r else match spl c r with
  | [] => [[b]]
  | x :: xs => (b :: x) :: xs
theorem spl_ne (c : UInt8) : ∀ s, spl c s ≠ []
 | [] => by simp [spl]
 | b :: r => by
  unfold spl
  split
  ·simp
  ·split <;> simp
theorem splitK_one (c : UInt8) : ∀ s : List UInt8, splitK [c] 0 (s.count c) s = spl c s
 | [] => rfl
 | b :: r => by
  have ih := splitK_one c r
  by_cases h : b = c
  ·subst h
   have e : index (b :: r) [b] = 0 := by simp [index]
   rw [List.count_cons_self, splitK]
   simp only [e]
   rw [spl, if_pos rfl, ← ih]
   rfl
  ·have hcb : ¬ c = b := fun e => h e.symm
   rw [List.count_cons_of_ne h, spl, if_neg h, ← ih]
   cases hk : r.count c with
   | zero => rfl
   | succ k =>
    rw [splitK, splitK]
    have e : index (b :: r) [c] = if index r [c] == -1 then -1 else index r [c] + 1 := by
     simp [index, hcb]
    have hp : ¬ index r [c] = -1 := by
     intro h0
     have hc : 0 < count r [c] := by rw [count_one]; omega
     unfold count at hc
     rw [countFrom, if_pos (by simp [h0])] at hc
     omega
    have hge := index_ge r [c]
    rw [e]
    simp only [beq_iff_eq, hp, if_false]
    have e2 : ¬ (index r [c] + 1 = -1) := by omega
    rw [if_neg e2]
    have e3 : (index r [c] + 1).toNat = (index r [c]).toNat + 1 := by omega
    rw [e3]
    simp
theorem spl_app (c : UInt8) : ∀ (a b : List UInt8), c ∉ a → spl c (a ++ c :: b) = a :: spl c b
 | [], b, _ => by rw [List.nil_append, spl, if_pos rfl]
 | x :: a, b, h => by
  have h1 : x ≠ c := fun e => h (by rw [e]; exact List.mem_cons_self)
  have h2 : c ∉ a := fun e => h (List.mem_cons_of_mem _ e)
  rw [List.cons_append, spl, if_neg h1, spl_app c a b h2]
theorem spl_no (c : UInt8) : ∀ a : List UInt8, c ∉ a → spl c a = [a]
 | [], _ => rfl
 | x :: a, h => by
  have h1 : x ≠ c := fun e => h (by rw [e]; exact List.mem_cons_self)
  have h2 : c ∉ a := fun e => h (List.mem_cons_of_mem _ e)
  rw [spl, if_neg h1, spl_no c a h2]
end Go.Plain
end

section
namespace Go.Proofs.Tryz
open Go Go.Vm Go.Plain
set_option maxRecDepth 20000
set_option maxHeartbeats 4000000
theorem ba_ext {a b : ByteArray} (h : a.data.toList = b.data.toList) : a = b := ByteArray.ext (Array.toList_inj.1 h)
theorem ba_size (s : ByteArray) : s.size = s.data.toList.length := by rw [Array.length_toList]; rfl
theorem itoaB_list (n : Int) : (itoaB n).data.toList = Lib.itoa n := rfl
def ofL (l : List UInt8) : ByteArray := ⟨l.toArray⟩
theorem ofL_data (s : ByteArray) : ofL s.data.toList = s := ba_ext rfl
theorem ofL_list (l : List UInt8) : (ofL l).data.toList = l := rfl
theorem ofL_size (l : List UInt8) : (ofL l).size = l.length := List.size_toArray
theorem ofL_app (a b : List UInt8) : ofL a ++ ofL b = ofL (a ++ b) := ba_ext (by rw [ba_app]; rfl)
theorem ofL_inj {a b : List UInt8} (h : ofL a = ofL b) : a = b := by
 have := congrArg (fun s : ByteArray => s.data.toList) h
 exact this
theorem splitD_eq (s : ByteArray) (c : UInt8) : splitD s ⟨#[c]⟩ = (spl c s.data.toList).map ofL := by
 have h : (splitD s ⟨#[c]⟩).map (·.data.toList) = spl c s.data.toList := by
  unfold splitD
  rw [Lib.splitB_data]
  have : Lib.countB s ⟨#[c]⟩ = s.data.toList.count c := Lib.count_one c s.data.toList
  rw [this]
  exact splitK_one c s.data.toList
 rw [← h, List.map_map]
 have : (ofL ∘ fun x : ByteArray => x.data.toList) = id := funext ofL_data
 rw [this, List.map_id]
theorem itoa_no (n : Int) (c : UInt8) (h : c.toNat ≠ 45 ∧ (c.toNat < 48 ∨ 57 < c.toNat)) : c ∉ Lib.itoa n := by
 rw [itoa_sign]
 intro hm
 rcases List.mem_append.1 hm with hm | hm
 ·split at hm
  ·rw [List.mem_singleton] at hm
   subst hm
   exact h.1 rfl
  ·cases hm
 ·have := dig_mem _ c hm
  omega
def joinW : List (List UInt8) → List UInt8
 | [] => []
 | [w] => w
 | w :: v :: r => w ++ 32 :: joinW (v :: r)
theorem joinW_more (w : List UInt8) (r : List (List UInt8)) (h : r ≠ []) : joinW (w :: r) = w ++ 32 :: joinW r := by
 cases r with
 | nil => exact absurd rfl h
 | cons v r => rfl
theorem spl_join : ∀ ws : List (List UInt8), ws ≠ [] → (∀ w ∈ ws, (32 : UInt8) ∉ w) → spl 32 (joinW ws) = ws
 | [], h, _ => absurd rfl h
 | [w], _, h => spl_no 32 w (h w List.mem_cons_self)
 | w :: v :: r, _, h => by
  rw [joinW, spl_app 32 w _ (h w List.mem_cons_self), spl_join (v :: r) (by simp) fun x hx => h x (List.mem_cons_of_mem _ hx)]
theorem joinW_no {c : UInt8} (hc : c ≠ 32) : ∀ ws : List (List UInt8), (∀ w ∈ ws, c ∉ w) → c ∉ joinW ws
 | [], _ => by simp [joinW]
 | [w], h => h w List.mem_cons_self
 | w :: v :: r, h => by
  rw [joinW]
  simp only [List.mem_append, List.mem_cons, not_or]
  exact ⟨h w List.mem_cons_self, hc, joinW_no hc (v :: r) fun x hx => h x (List.mem_cons_of_mem _ hx)⟩
def catW (s : List UInt8) : List (List UInt8) → List UInt8
 | [] => s
 | w :: r => catW (s ++ 32 :: w) r
theorem catW_join : ∀ (r : List (List UInt8)) (s : List UInt8), catW s r = joinW (s :: r)
 | [], _ => rfl
 | w :: r, s => by
  rw [catW, catW_join r, joinW]
  cases r with
  | nil => rfl
  | cons v r => simp [joinW]
theorem joinW_len : ∀ (ws : List (List UInt8)) (k : Nat), (∀ w ∈ ws, w.length ≤ k) → (joinW ws).length ≤ (k + 1) * ws.length
 | [], _, _ => by simp [joinW]
 | [w], k, h => by have := h w List.mem_cons_self; simp [joinW]; omega
 | w :: v :: r, k, h => by
  have h1 := h w List.mem_cons_self
  have h2 := joinW_len (v :: r) k fun x hx => h x (List.mem_cons_of_mem _ hx)
  rw [joinW]
  simp only [List.length_append, List.length_cons] at h2 ⊢
  rw [Nat.mul_succ]
  omega
end Go.Proofs.Tryz
end

section
namespace Go.Proofs.Tryz
open Go Go.Vm Go.Plain
set_option maxRecDepth 20000
set_option maxHeartbeats 4000000
def cutL (c : UInt8) : List UInt8 → List UInt8 × List UInt8 × Bool
 | [] => ([], [], false)
 | b :: r => if b = c then ([], r, true) else (b :: (cutL c r).1, (cutL c r).2.1, (cutL c r).2.2)
theorem index_one (c : UInt8) : ∀ l : List UInt8, (Lib.index l [c] = -1 ∧ cutL c l = (l, [], false)) ∨ (∃ i : Nat, Lib.index l [c] = i ∧ cutL c l = (l.take i, l.drop (i + 1), true))
 | [] => .inl ⟨by simp [Lib.index], rfl⟩
 | b :: r => by
  by_cases h : b = c
  ·subst h
   exact .inr ⟨0, by simp [Lib.index], by rw [cutL, if_pos rfl]; rfl⟩
  ·have hcb : ¬ c = b := fun e => h e.symm
   have e : Lib.index (b :: r) [c] = if Lib.index r [c] == -1 then -1 else Lib.index r [c] + 1 := by
    simp [Lib.index, hcb]
   rcases index_one c r with ⟨h1, h2⟩ | ⟨i, h1, h2⟩
   ·refine .inl ⟨by rw [e, h1]; rfl, ?_⟩
    rw [cutL, if_neg h, h2]
   ·refine .inr ⟨i + 1, ?_, ?_⟩
    ·rw [e, h1, if_neg (by simp; try omega)]; omega
    ·rw [cutL, if_neg h, h2]; rfl
theorem cut_one (c : UInt8) (l : List UInt8) : Lib.cut l [c] = cutL c l := by
 unfold Lib.cut
 rcases index_one c l with ⟨h1, h2⟩ | ⟨i, h1, h2⟩
 ·rw [if_neg (by omega), h2]
 ·rw [if_pos (by omega), h2, h1]
  simp
theorem spl_cut (c : UInt8) : ∀ l : List UInt8, spl c l = if (cutL c l).2.2 = true then (cutL c l).1 :: spl c (cutL c l).2.1 else [l]
 | [] => rfl
 | b :: r => by
  rw [spl, cutL]
  by_cases h : b = c
  ·rw [if_pos h, if_pos h]; rfl
  ·rw [if_neg h, if_neg h, spl_cut c r]
   by_cases h2 : (cutL c r).2.2 = true
   ·rw [if_pos h2, if_pos h2]
   ·rw [if_neg h2, if_neg h2]
theorem cut_miss (c : UInt8) (l : List UInt8) (h : (cutL c l).2.2 = false) : cutL c l = (l, [], false) := by
 rcases index_one c l with ⟨-, h2⟩ | ⟨i, -, h2⟩
 ·exact h2
 ·rw [h2] at h; cases h
theorem cut_len (c : UInt8) : ∀ l : List UInt8, (cutL c l).2.2 = true → (cutL c l).2.1.length < l.length ∧ (cutL c l).1.length < l.length
 | [], h => by cases h
 | b :: r, h => by
  rw [cutL] at h ⊢
  by_cases hb : b = c
  ·rw [if_pos hb]; simp
  ·rw [if_neg hb] at h ⊢
   have := cut_len c r h
   simp only [List.length_cons]
   omega
theorem spl_snoc (c b : UInt8) : ∀ a : List UInt8, ∃ o x, spl c a = o ++ [x] ∧ spl c (a ++ [b]) = if b = c then o ++ [x, []] else o ++ [x ++ [b]]
 | [] => ⟨[], [], rfl, by
  rw [List.nil_append, spl]
  split <;> rfl⟩
 | d :: r => by
  obtain ⟨o, x, h1, h2⟩ := spl_snoc c b r
  rw [List.cons_append, spl, spl]
  by_cases hd : d = c
  ·rw [if_pos hd, if_pos hd, h1, h2]
   refine ⟨[] :: o, x, rfl, ?_⟩
   split <;> rfl
  ·rw [if_neg hd, if_neg hd, h1, h2]
   by_cases hb : b = c
   ·simp only [if_pos hb]
    cases o with
    | nil => exact ⟨[], d :: x, rfl, rfl⟩
    | cons y o => exact ⟨(d :: y) :: o, x, rfl, rfl⟩
   ·simp only [if_neg hb]
    cases o with
    | nil => exact ⟨[], d :: x, rfl, rfl⟩
    | cons y o => exact ⟨(d :: y) :: o, x, rfl, rfl⟩
theorem spl_last (c b : UInt8) {a : List UInt8} {o : List (List UInt8)} {x : List UInt8} (h : spl c a = o ++ [x]) : spl c (a ++ [b]) = if b = c then o ++ [x] ++ [[]] else o ++ [x ++ [b]] := by
 obtain ⟨o', x', h1, h2⟩ := spl_snoc c b a
 rw [h] at h1
 obtain ⟨rfl, h4⟩ := List.append_inj' h1 rfl
 cases h4
 rw [h2]
 split <;> simp
theorem spl_size (c : UInt8) : ∀ a : List UInt8, (spl c a).length ≤ a.length + 1
 | [] => by simp [spl]
 | b :: r => by
  have := spl_size c r
  rw [spl]
  split
  ·simp; omega
  ·split
   ·simp
   ·rename_i x xs h; rw [h] at this; simp at this ⊢; omega
theorem spl_each (c : UInt8) : ∀ a : List UInt8, ∀ x ∈ spl c a, x.length ≤ a.length
 | [], x, h => by simp [spl] at h; simp [h]
 | b :: r, x, h => by
  have ih := spl_each c r
  rw [spl] at h
  split at h
  ·rcases List.mem_cons.1 h with rfl | h
   ·simp
   ·have := ih x h; simp; omega
  ·split at h
   ·rcases List.mem_cons.1 h with rfl | h
    ·simp
    ·cases h
   ·rename_i y ys hy
    rcases List.mem_cons.1 h with rfl | h
    ·have := ih y (by rw [hy]; exact List.mem_cons_self); simp; omega
    ·have := ih x (by rw [hy]; exact List.mem_cons_of_mem _ h); simp; omega
end Go.Proofs.Tryz
end

section
namespace Go.Proofs.Tryz
open Go Go.Vm
set_option maxRecDepth 20000
set_option maxHeartbeats 2000000
theorem ev_Within (n lo hi : Int) : Ev Tryz.prog 53 [.int .i64 n, .int .i64 lo, .int .i64 hi] (.bool (!outsideB n lo hi)) := by
 refine ev_of_awp tysOk mixed (fn := Tryz.f53) Tryz.func53 rfl rfl rfl ?_
 conv => whnf
 repeat' (first|((with_reducible refine Split.dec (fun _=>?_) (fun _=>?_))<;>conv=>whnf)|fail)
 all_goals
  simp only [retOf, outsideB]
  congr 1
  rw [Bool.eq_iff_iff]
  simp
  omega
end Go.Proofs.Tryz
end

section
namespace Go.Proofs.Tryz
open Go Go.Vm
set_option maxRecDepth 20000
set_option maxHeartbeats 2000000
theorem ev_ValidRaw (r : Rw) : Ev Tryz.prog 22 [rD r] (.bool (rawB r)) := by
 refine ev_of_awp tysOk mixed (fn := Tryz.f22) Tryz.func22 rfl rfl rfl ?_
 conv => whnf
 repeat' (first|((with_reducible first|refine Split.of_true ?_|refine Split.of_false ?_);conv=>whnf)|(with_reducible refine Split.neg ?_)|((with_reducible refine Split.mk (fun _=>?_) (fun _=>?_))<;>conv=>whnf)|((with_reducible refine AltK.l ?_);(conv=>whnf);(first|(refine CallK.mk _ (ev_Within _ _ _) ?_));conv=>whnf)|fail)
 all_goals simp_all [retOf, rawB]
theorem ev_ValidR (s : Sg) : Ev Tryz.prog 35 [sgD s] (.bool (sgB s)) := by
 refine ev_of_awp tysOk mixed (fn := Tryz.f35) Tryz.func35 rfl rfl rfl ?_
 conv => whnf
 repeat' (first|((with_reducible first|refine Split.of_true ?_|refine Split.of_false ?_);conv=>whnf)|(with_reducible refine Split.neg ?_)|((with_reducible refine Split.dec (fun _=>?_) (fun _=>?_))<;>conv=>whnf)|((with_reducible refine Split.mk (fun _=>?_) (fun _=>?_))<;>conv=>whnf)|((with_reducible refine AltK.l ?_);(conv=>whnf);(first|(refine CallK.mk _ (ev_Within _ _ _) ?_));conv=>whnf)|fail)
 all_goals (simp_all [retOf, sgB] <;> omega)
end Go.Proofs.Tryz
end

section
namespace Go.Proofs.Tryz
open Go Go.Vm Go.Plain
set_option maxRecDepth 20000
set_option maxHeartbeats 4000000
def numA (w : List UInt8) : Option Int := match Lib.atoiAll w with
 | .ok n => if Lib.itoa n = w then some n else none
 | _ => none
theorem numA_some {w : List UInt8} {n : Int} (h : numA w = some n) : w = Lib.itoa n := by
 unfold numA at h
 split at h
 ·split at h
  ·rename_i h1; cases h; exact h1.symm
  ·cases h
 ·cases h
theorem numA_itoa {n : Int} (h : n.natAbs < 1000000000000000) : numA (Lib.itoa n) = some n := by
 unfold numA
 rw [atoi_itoa n h]
 simp
theorem numA_no {w : List UInt8} (h : ∀ v, Lib.atoiAll w ≠ .ok v) : numA w = none := by
 unfold numA
 split
 ·rename_i v hv; exact absurd hv (h v)
 ·rfl
theorem numA_ok {w : List UInt8} {v : Int} (h : Lib.atoiAll w = .ok v) : numA w = if Lib.itoa v = w then some v else none := by
 unfold numA; rw [h]
def numsA : List (List UInt8) → Option (List Int)
 | [] => some []
 | w :: r => match numA w, numsA r with
  | some n, some l => some (n :: l)
  | _, _ => none
theorem numsA_app (l : List Int) {ws : List (List UInt8)} {w : List UInt8} {n : Int} (h : numA w = some n) : (numsA (w :: ws)).map (l ++ ·) = (numsA ws).map ((l ++ [n]) ++ ·) := by
 rw [numsA, h]
 cases numsA ws <;> simp
theorem numsA_no (ws : List (List UInt8)) {w : List UInt8} (h : numA w = none) : numsA (w :: ws) = none := by rw [numsA, h]
theorem numsA_some : ∀ {ws : List (List UInt8)} {l : List Int}, numsA ws = some l → ws = l.map Lib.itoa
 | [], l, h => by cases h; rfl
 | w :: r, l, h => by
  rw [numsA] at h
  split at h
  ·rename_i n l' h1 h2
   cases h
   rw [List.map_cons, ← numA_some h1, ← numsA_some h2]
  ·cases h
theorem numsA_itoa : ∀ {l : List Int}, (∀ n ∈ l, n.natAbs < 1000000000000000) → numsA (l.map Lib.itoa) = some l
 | [], _ => rfl
 | n :: r, h => by
  rw [List.map_cons, numsA, numA_itoa (h n List.mem_cons_self), numsA_itoa fun x hx => h x (List.mem_cons_of_mem _ hx)]
theorem spl_ne (c : UInt8) (l : List UInt8) : spl c l ≠ [] := by
 cases l with
 | nil => simp [spl]
 | cons b r =>
  rw [spl]
  split
  ·simp
  ·split <;> simp
theorem join_spl : ∀ l : List UInt8, joinW (spl 32 l) = l
 | [] => rfl
 | b :: r => by
  have ih := join_spl r
  have hne := spl_ne 32 r
  rw [spl]
  split
  ·rename_i h
   rw [joinW_more _ _ hne, ih, h]; rfl
  ·split
   ·rename_i h; exact absurd h hne
   ·rename_i x xs h
    rw [h] at ih
    cases xs with
    | nil => simp only [joinW] at ih ⊢; rw [ih]
    | cons y ys => simp only [joinW, List.cons_append] at ih ⊢; rw [ih]
theorem itoa_no32 (n : Int) : (32 : UInt8) ∉ Lib.itoa n := itoa_no _ _ (by decide)
theorem itoa_no10 (n : Int) : (10 : UInt8) ∉ Lib.itoa n := itoa_no _ _ (by decide)
theorem spl_itoas {l : List Int} (h : l ≠ []) : spl 32 (joinW (l.map Lib.itoa)) = l.map Lib.itoa :=
 spl_join _ (by simpa using h) fun w hw => by
  obtain ⟨n, -, rfl⟩ := List.mem_map.1 hw
  exact itoa_no32 n
def digs : List UInt8 → Nat → Nat
 | [], n => n
 | b :: r, n => digs r (if 48 ≤ b.toNat ∧ b.toNat ≤ 57 then 10 * n + (b.toNat - 48) else n)
def numR (w : List UInt8) : Int := if w.head? = some 45 then -(digs (w.take 10) 0 : Int) else digs (w.take 10) 0
theorem digs_from : ∀ (l : List UInt8) (a x : Nat), Lib.decFrom a l = some x → digs l a = x
 | [], a, x, h => by cases h; rfl
 | b :: r, a, x, h => by
  rw [Lib.decFrom] at h
  split at h
  ·rename_i d hd
   unfold Lib.digitVal at hd
   split at hd
   ·rename_i hb
    cases hd
    rw [digs, if_pos hb, Nat.mul_comm 10]
    exact digs_from r _ x h
   ·cases hd
  ·cases h
theorem digs_lt : ∀ (l : List UInt8) (a : Nat), digs l a < (a + 1) * 10 ^ l.length
 | [], a => by simp [digs]
 | b :: r, a => by
  rw [digs]
  refine Nat.lt_of_lt_of_le (digs_lt r _) ?_
  rw [List.length_cons, Nat.pow_succ, Nat.mul_comm (10 ^ r.length) 10, ← Nat.mul_assoc]
  refine Nat.mul_le_mul_right _ ?_
  split <;> omega
theorem itoa_len10 {n : Int} (h : n.natAbs < 1000000000) : (Lib.itoa n).length ≤ 10 := by
 have := dig_len (k := 8) (u := n.natAbs) (by simpa using h)
 rw [itoa_sign, List.length_append]
 split <;> simp <;> omega
theorem numR_itoa {n : Int} (h : n.natAbs < 1000000000) : numR (Lib.itoa n) = n := by
 have hl := itoa_len10 h
 unfold numR
 rw [List.take_of_length_le hl]
 have hd := digs_from _ _ _ (decFrom_dig n.natAbs)
 rw [itoa_sign]
 by_cases h0 : n < 0
 ·rw [if_pos h0]
  have e1 : ([45] ++ Lib.decDigits n.natAbs).head? = some 45 := rfl
  rw [if_pos e1, List.cons_append, List.nil_append, digs, if_neg (by decide), hd]
  omega
 ·rw [if_neg h0, List.nil_append, if_neg, hd]
  ·omega
  ·cases hdd : Lib.decDigits n.natAbs with
   | nil => exact absurd hdd (dig_ne _)
   | cons b r =>
    have hb := dig_mem n.natAbs b (by rw [hdd]; exact List.mem_cons_self)
    intro e
    obtain rfl : b = 45 := by simpa using e
    revert hb; decide
/-! Raw soundings. -/
def sRaw : List UInt8 := [114, 97, 119]
def rawI (r : Rw) : List Int := [r.n, r.mi, r.x, r.y, r.d, r.dr, r.e]
def rawT (r : Rw) : List UInt8 := sRaw ++ 32 :: joinW ((rawI r).map Lib.itoa)
def rwOf : List Int → Option Rw
 | [a, b, c, d, e, f, g] => if rawB ⟨a, b, c, d, e, f, g⟩ = true then some ⟨a, b, c, d, e, f, g⟩ else none
 | _ => none
def rdRaw (s : List UInt8) : Option Rw := if s.take 4 = [114, 97, 119, 32] then match numsA (spl 32 (s.drop 4)) with
 | some l => rwOf l
 | none => none else none
theorem rwOf_some {l : List Int} {r : Rw} (h : rwOf l = some r) : rawB r = true ∧ l = rawI r := by
 unfold rwOf at h
 split at h
 ·split at h
  ·rename_i h1; cases h; exact ⟨h1, rfl⟩
  ·cases h
 ·cases h
theorem rwOf_rawI {r : Rw} (h : rawB r = true) : rwOf (rawI r) = some r := by
 show (if rawB r = true then some r else none) = some r
 rw [if_pos h]
theorem raw_bd {r : Rw} (h : rawB r = true) : ∀ n ∈ rawI r, n.natAbs ≤ 1000000 := by
 intro n hn
 simp only [rawI, List.mem_cons, List.not_mem_nil, or_false] at hn
 simp only [rawB, outsideB, Bool.and_eq_true, Bool.not_eq_true', Bool.or_eq_false_iff, decide_eq_false_iff_not] at h
 omega
theorem rdRaw_some {s : List UInt8} {r : Rw} (h : rdRaw s = some r) : rawB r = true ∧ s = rawT r := by
 unfold rdRaw at h
 split at h
 ·rename_i h1
  split at h
  ·rename_i l hl
   obtain ⟨h2, rfl⟩ := rwOf_some h
   refine ⟨h2, ?_⟩
   have e := join_spl (s.drop 4)
   rw [numsA_some hl] at e
   unfold rawT
   rw [e, ← List.take_append_drop 4 s, h1]
   simp [sRaw]
  ·cases h
 ·cases h
theorem rdRaw_rawT {r : Rw} (h : rawB r = true) : rdRaw (rawT r) = some r := by
 unfold rdRaw
 have e1 : (rawT r).take 4 = [114, 97, 119, 32] := rfl
 have e2 : (rawT r).drop 4 = joinW ((rawI r).map Lib.itoa) := rfl
 rw [if_pos e1, e2, spl_itoas (by simp [rawI]), numsA_itoa fun n hn => by have := raw_bd h n hn; omega]
 exact rwOf_rawI h
def refRaw (s : List UInt8) : Option Rw := if 200 < s.length then none else match rwOf (((spl 32 s).drop 1).map numR) with
 | some r => if rawT r = s then some r else none
 | none => none
theorem joinW_itoas_len (l : List Int) (h : ∀ n ∈ l, n.natAbs ≤ 100000000) : (joinW (l.map Lib.itoa)).length ≤ 11 * l.length := by
 have := joinW_len (l.map Lib.itoa) 10 fun w hw => by
  obtain ⟨n, hn, rfl⟩ := List.mem_map.1 hw
  exact itoa_len10 (by have := h n hn; omega)
 rwa [List.length_map] at this
theorem rawT_len {r : Rw} (h : rawB r = true) : (rawT r).length ≤ 81 := by
 have := joinW_itoas_len (rawI r) fun n hn => by have := raw_bd h n hn; omega
 have e : (rawI r).length = 7 := rfl
 rw [e] at this
 unfold rawT sRaw
 simp only [List.length_append, List.length_cons, List.length_nil]
 omega
theorem refRaw_eq (s : List UInt8) : refRaw s = rdRaw s := by
 cases h : rdRaw s with
 | some r =>
  obtain ⟨h1, rfl⟩ := rdRaw_some h
  have hl := rawT_len h1
  unfold refRaw
  rw [if_neg (by omega)]
  have e1 : spl 32 (rawT r) = sRaw :: (rawI r).map Lib.itoa := by
   unfold rawT
   rw [spl_app 32 _ _ (by decide), spl_itoas (by simp [rawI])]
  have e2 : ((rawI r).map Lib.itoa).map numR = rawI r := by
   rw [List.map_map]
   conv => rhs; rw [← List.map_id (rawI r)]
   refine List.map_congr_left fun n hn => ?_
   have := raw_bd h1 n hn
   exact numR_itoa (by omega)
  rw [e1, List.drop_succ_cons, List.drop_zero, e2, rwOf_rawI h1]
  simp
 | none =>
  unfold refRaw
  split
  ·rfl
  ·split
   ·rename_i r hr
    rw [if_neg]
    rintro rfl
    rw [rdRaw_rawT (rwOf_some hr).1] at h
    cases h
   ·rfl
/-! Soundings. -/
def sgZs (s : Sg) : List Int := [s.n, s.x, s.y, s.lo, s.hi]
def sgT (s : Sg) : List UInt8 := joinW ((sgZs s).map Lib.itoa)
def sgOf : List Int → Option Sg
 | [a, b, c, d, e] => if sgB ⟨a, b, c, d, e⟩ = true then some ⟨a, b, c, d, e⟩ else none
 | _ => none
def rdSg (s : List UInt8) : Option Sg := match numsA (spl 32 s) with
 | some l => sgOf l
 | none => none
theorem sgOf_some {l : List Int} {r : Sg} (h : sgOf l = some r) : sgB r = true ∧ l = sgZs r := by
 unfold sgOf at h
 split at h
 ·split at h
  ·rename_i h1; cases h; exact ⟨h1, rfl⟩
  ·cases h
 ·cases h
theorem sgOf_sgZs {r : Sg} (h : sgB r = true) : sgOf (sgZs r) = some r := by
 show (if sgB r = true then some r else none) = some r
 rw [if_pos h]
theorem sg_bd {r : Sg} (h : sgB r = true) : ∀ n ∈ sgZs r, n.natAbs ≤ 1000000 := by
 intro n hn
 simp only [sgZs, List.mem_cons, List.not_mem_nil, or_false] at hn
 simp only [sgB, outsideB, Bool.and_eq_true, Bool.not_eq_true', Bool.or_eq_false_iff, decide_eq_false_iff_not, decide_eq_true_eq] at h
 omega
theorem rdSg_some {s : List UInt8} {r : Sg} (h : rdSg s = some r) : sgB r = true ∧ s = sgT r := by
 unfold rdSg at h
 split at h
 ·rename_i l hl
  obtain ⟨h2, rfl⟩ := sgOf_some h
  refine ⟨h2, ?_⟩
  have e := join_spl s
  rw [numsA_some hl] at e
  exact e.symm
 ·cases h
theorem rdSg_sgT {r : Sg} (h : sgB r = true) : rdSg (sgT r) = some r := by
 unfold rdSg sgT
 rw [spl_itoas (by simp [sgZs]), numsA_itoa fun n hn => by have := sg_bd h n hn; omega]
 exact sgOf_sgZs h
def refSg (s : List UInt8) : Option Sg := if 200 < s.length then none else match sgOf ((spl 32 s).map numR) with
 | some r => if sgT r = s then some r else none
 | none => none
theorem sgT_len {r : Sg} (h : sgB r = true) : (sgT r).length ≤ 55 := by
 have := joinW_itoas_len (sgZs r) fun n hn => by have := sg_bd h n hn; omega
 have e : (sgZs r).length = 5 := rfl
 rw [e] at this
 unfold sgT
 omega
theorem refSg_eq (s : List UInt8) : refSg s = rdSg s := by
 cases h : rdSg s with
 | some r =>
  obtain ⟨h1, rfl⟩ := rdSg_some h
  have hl := sgT_len h1
  unfold refSg
  rw [if_neg (by omega)]
  have e1 : spl 32 (sgT r) = (sgZs r).map Lib.itoa := spl_itoas (by simp [sgZs])
  have e2 : ((sgZs r).map Lib.itoa).map numR = sgZs r := by
   rw [List.map_map]
   conv => rhs; rw [← List.map_id (sgZs r)]
   refine List.map_congr_left fun n hn => ?_
   have := sg_bd h1 n hn
   exact numR_itoa (by omega)
  rw [e1, e2, sgOf_sgZs h1]
  simp
 | none =>
  unfold refSg
  split
  ·rfl
  ·split
   ·rename_i r hr
    rw [if_neg]
    rintro rfl
    rw [rdSg_sgT (sgOf_some hr).1] at h
    cases h
   ·rfl
/-! Sheets. -/
def runS (n : Nat) (o : List Sg) : List (List UInt8) → Except Nat (List Sg)
 | [] => .ok o
 | [x] => if x = [] then .ok o else .error n
 | x :: z :: l => match rdSg x with
  | some v => runS (n + 1) (o ++ [v]) (z :: l)
  | none => .error n
def shT : List Sg → List UInt8
 | [] => []
 | s :: r => sgT s ++ 10 :: shT r
theorem sgT_no10 (s : Sg) : (10 : UInt8) ∉ sgT s := joinW_no (by decide) _ fun w hw => by
 obtain ⟨n, -, rfl⟩ := List.mem_map.1 hw
 exact itoa_no10 n
theorem sheet_back : ∀ (l : List Sg) (n : Nat) (o : List Sg), (∀ s ∈ l, sgB s = true) → runS n o (spl 10 (shT l)) = .ok (o ++ l)
 | [], n, o, _ => by rw [List.append_nil]; rfl
 | s :: r, n, o, h => by
  rw [shT, spl_app 10 _ _ (sgT_no10 s)]
  have ih := sheet_back r (n + 1) (o ++ [s]) fun x hx => h x (List.mem_cons_of_mem _ hx)
  cases hz : spl 10 (shT r) with
  | nil => exact absurd hz (spl_ne _ _)
  | cons z l =>
   rw [hz] at ih
   rw [runS, rdSg_sgT (h s List.mem_cons_self)]
   simp only
   rw [ih, List.append_assoc]
   rfl
theorem shT_len : ∀ (l : List Sg), (∀ s ∈ l, sgB s = true) → (shT l).length ≤ 56 * l.length
 | [], _ => by simp [shT]
 | s :: r, h => by
  have h1 := sgT_len (h s List.mem_cons_self)
  have h2 := shT_len r fun x hx => h x (List.mem_cons_of_mem _ hx)
  rw [shT, List.length_append, List.length_cons, List.length_cons]
  omega
end Go.Proofs.Tryz
end

section
namespace Go.Proofs.Tryz
open Go Go.Vm
open Go.RowKit (Below)
set_option maxRecDepth 100000
set_option maxHeartbeats 4000000
theorem byt_size : (Tryz.prog.info? 5).map (·.size) = some 1 := by kernel_rfl
theorem gr_walk (B b n cap : Nat) (ao : Option Addr) (w : World) (hb : w.heap[b]? = some (.cells #[.pointer (some ⟨b, 0, none⟩), .slice ao 0 cap] 76 (0, 0)))
 (hn : n ≤ 1099511627776) (hc : cap < n) (hB : B ≤ w.heap.size) :
 Calls Tryz.prog 120 #[.pointer (some ⟨b, 0, none⟩), .int .i64 n] w fun e w' => e = .returned (.tuple #[]) ∧ BlKept w w' b (.slice ao 0 cap) ∧
  ∃ v', w'.heap[b]? = some (.cells #[.pointer (some ⟨b, 0, none⟩), v'] 76 (0, 0)) ∧ w'.ownsRow B 5 1 v' 0 [] ∧ v'.ownBlock = some w.heap.size := by
 have hblt : b < w.heap.size := (Array.getElem?_eq_some_iff.1 hb).1
 obtain ⟨cs, hrun, hle, hmax⟩ := Lib.run_makeNoZero (P := Tryz.prog) w.drew #[3] 74 5 Tryz.underlying74 (2 * cap + n) (by omega)
 have hw : IntKind.i64.wrap (IntKind.i64.wrap (2 * (cap : Int)) + (n : Int)) = ((2 * cap + n : Nat) : Int) := by
  rw [IntKind.wrap_i64, IntKind.wrap_i64]
  omega
 have hcall : (callFunc 148 #[.int .i64 (IntKind.i64.wrap (IntKind.i64.wrap (2 * (cap : Int)) + (n : Int)))]).run Tryz.prog w.drew = .ok (.value (.slice (some ⟨w.drew.heap.size, 0, none⟩) (2 * cap + n) cs.size)) (w.drew.drew.drew.alloc (.cells cs 5)) := by
  rw [hw, run_callFunc_extern Tryz.func148 (by kernel_rfl) (by kernel_rfl) (by kernel_rfl) (e := Extern.BytealgMakeNoZero.makeNoZero #[3] #[74]) (by kernel_rfl), hrun]
  rfl
 have c1 : w.drew.cell? ⟨b, 1, none⟩ = some (.slice ao 0 cap) := by
  have : w.drew.heap[b]? = _ := hb
  rw [Lib.cell_of_heap this]; rfl
 have hb2 : (w.alloc (.cells cs 5)).heap[b]? = some (.cells #[.pointer (some ⟨b, 0, none⟩), .slice ao 0 cap] 76 (0, 0)) := (Lib.alloc_old w _ b hblt).trans hb
 have c2 : (w.alloc (.cells cs 5)).cell? ⟨b, 1, none⟩ = some (.slice ao 0 cap) := by rw [Lib.cell_of_heap hb2]; rfl
 have f2 : (w.alloc (.cells cs 5)).frozen? ⟨b, 1, none⟩ = false := Lib.frozen_of_heap hb2 1
 have hcopy : ∀ W : World, (Builtin.copy_ #[74, 74] 3 #[.slice (some ⟨w.heap.size, 0, none⟩) 0 cs.size, .slice ao 0 cap]).run Tryz.prog W = .ok (goInt 0) W :=
  fun W => run_copy_none W 74 74 3 5 _ _ 0 cs.size 0 cap Tryz.underlying74 byt_size (by simp)
 clear hw
 have fin : ∀ W' : World, W'.heap = (w.setCell ⟨b, 1, none⟩ (.slice (some ⟨w.heap.size, 0, none⟩) 0 cs.size)).heap.push (.cells cs 5) → W'.os = w.os → W'.tape = w.tape → W'.output = w.output →
  BlKept w W' b (.slice ao 0 cap) ∧ ∃ v', W'.heap[b]? = some (.cells #[.pointer (some ⟨b, 0, none⟩), v'] 76 (0, 0)) ∧ W'.ownsRow B 5 1 v' 0 [] ∧ v'.ownBlock = some w.heap.size := by
  intro W' h1 h2 h3 h4
  have z : (w.setCell ⟨b, 1, none⟩ (.slice (some ⟨w.heap.size, 0, none⟩) 0 cs.size)).heap.size = w.heap.size := setCell_size _
  have hold : ∀ k, k < w.heap.size → W'.heap[k]? = (w.setCell ⟨b, 1, none⟩ (.slice (some ⟨w.heap.size, 0, none⟩) 0 cs.size)).heap[k]? := fun k hk => by
   rw [h1, Array.getElem?_push, if_neg (by omega)]
  refine ⟨⟨h2, h3, h4, ?_, fun k hk hkb _ => ?_⟩, .slice (some ⟨w.heap.size, 0, none⟩) 0 cs.size, ?_, ⟨rfl, .inr ⟨w.heap.size, cs.size, cs, rfl, hB, ?_, Nat.zero_le _, hmax (by unfold maxLen; omega), (Nat.mul_one _).symm, rfl⟩⟩, rfl⟩
  ·rw [h1, Array.size_push]; omega
  ·rw [hold k hk, setCell_other _ hkb]
  ·rw [hold b hblt]; exact setCell_heap _ hb
  ·rw [h1, Array.getElem?_push, if_pos z.symm]
 go_enter Tryz.func120, Tryz.ntmps120
 go_wp2
 go_region
 all_goals (go_wp2; go_end0; exact ⟨rfl, fin _ rfl rfl rfl rfl⟩)
end Go.Proofs.Tryz
end

section
namespace Go.Proofs.Tryz
open Go Go.Vm
open Go.RowKit (Below)
set_option maxRecDepth 100000
set_option maxHeartbeats 4000000
theorem Grow_walk (B b n cap : Nat) (p : Value) (ao : Option Addr) (w : World) (hb : w.heap[b]? = some (.cells #[p, .slice ao 0 cap] 76 (0, 0))) (hp : p = .pointer none ∨ p = .pointer (some ⟨b, 0, none⟩))
 (hown : w.ownsRow B 5 1 (.slice ao 0 cap) 0 []) (hn : n ≤ 1099511627776) (hcap : cap ≤ maxLen) (hB : B ≤ w.heap.size) (hne : (Value.slice ao 0 cap).ownBlock ≠ some b) :
 Calls Tryz.prog 75 #[.pointer (some ⟨b, 0, none⟩), .int .i64 n] w fun e w' => e = .returned (.tuple #[]) ∧ BlKept w w' b (.slice ao 0 cap) ∧
  ∃ v', w'.heap[b]? = some (.cells #[.pointer (some ⟨b, 0, none⟩), v'] 76 (0, 0)) ∧ w'.ownsRow B 5 1 v' 0 [] ∧ (v'.ownBlock = (Value.slice ao 0 cap).ownBlock ∨ v'.ownBlock = some w.heap.size) := by
 have hw : IntKind.i64.wrap ((cap : Int) - 0) = (cap : Int) := by
  rw [IntKind.wrap_i64]
  unfold maxLen at hcap
  omega
 go_enter Tryz.func75, Tryz.ntmps75
 go_wp2_with (go_at_call 61; refine (cc_any b p _ _ hb hp).mono ?_)
 rintro e w1 ⟨rfl, h1, h2, h3, h4, h5, h6⟩
 have hown1 : w1.ownsRow B 5 1 (.slice ao 0 cap) 0 [] := row_to hown fun g hg => h6 g fun e => hne (by rw [hg, e])
 have c1 : w1.cell? ⟨b, 1, none⟩ = some (.slice ao 0 cap) := by rw [Lib.cell_of_heap h1]; rfl
 have c2 : w1.drew.cell? ⟨b, 1, none⟩ = some (.slice ao 0 cap) := c1
 have hkeep : ∀ W : World, W.heap = w1.heap → W.os = w1.os → W.tape = w1.tape → W.output = w1.output → BlKept w W b (.slice ao 0 cap) := fun W g1 g2 g3 g4 =>
  ⟨g2.trans h2, g3.trans h3, g4.trans h4, by rw [g1, h5]; exact Nat.le_refl _, fun k hk hkb _ => by rw [g1]; exact h6 k hkb⟩
 have hb1 : w1.drew.heap[b]? = some (.cells #[.pointer (some ⟨b, 0, none⟩), .slice ao 0 cap] 76 (0, 0)) := h1
 have hwc : RowKit.wrap64 (cap : Int) = (cap : Int) := by
  rw [← hw]; simp [RowKit.wrap64, IntKind.wrap_i64]
 go_wp2
 go_region
 by_cases hc : cap < n
 ·have hd : decide (cap < n) = true := by simpa using hc
  rw [hd]
  go_wp2_with (go_at_call 120; refine (gr_walk B b n cap ao _ hb1 hn hc (by show B ≤ w1.heap.size; omega)).mono ?_)
  rintro e w2 ⟨rfl, k1, v', k2, k3, k4⟩
  go_wp2
  go_end0
  refine ⟨rfl, ⟨k1.os.trans h2, k1.tape.trans h3, k1.output.trans h4, Nat.le_trans (Nat.le_of_eq h5.symm) k1.size, fun k hk hkb hkv => (k1.same k (by show k < w1.heap.size; omega) hkb hkv).trans (h6 k hkb)⟩, v', k2, k3, .inr (by rw [k4]; exact congrArg some h5)⟩
 ·have hd : decide (cap < n) = false := by simpa using hc
  rw [hd]
  go_wp2
  go_end0
  exact ⟨rfl, hkeep _ rfl rfl rfl rfl, _, hb1, hown1, .inl rfl⟩
theorem xv_Grow (v n : Nat) (h : n ≤ 1099511627776) : EvX Tryz.prog 75 [.ptr 1000 0, .d (.int .i64 n)] [(1000, .bld v 76 5 ⟨#[]⟩)] (.tup []) [(1000, .bld (v + 1) 76 5 ⟨#[]⟩)] := by
 refine ⟨⟨_, Tryz.func75, rfl, rfl⟩, fun B0 w A L vals hB0 hg hA hsz hreps hmen hH => ?_⟩
 obtain ⟨v1, v2, rfl⟩ := vals2 hsz rfl
 have r1 := hreps 0 _ v1 rfl rfl
 have r2 := hreps 1 _ v2 rfl rfl
 cases r1
 cases r2 with
 | d r2 =>
 cases r2
 have hl : lk [(1000, Bx.bld v 76 5 ⟨#[]⟩)] 1000 = some (.bld v 76 5 ⟨#[]⟩) := by rw [lk_c, if_pos rfl]
 obtain ⟨q1, ⟨p, q2, q3⟩, q4, q5, q6⟩ := hH.br 1000 _ hl
 have hclm : ∀ {g}, own L 1000 (.bld v 76 5 ⟨#[]⟩) g → claims L [(1000, Bx.bld v 76 5 ⟨#[]⟩)] g := fun ho => ⟨1000, _, hl, ho⟩
 obtain ⟨ao, cap, hsub⟩ := row_slice q4
 have hsub : L.sub 1000 v 0 = .slice ao 0 cap := hsub
 have hcap : cap ≤ maxLen := by
  rcases q4.2 with ⟨e, -⟩ | ⟨g, c, cur, e, -, -, -, hc, -⟩
  ·rw [hsub] at e; cases e; exact Nat.zero_le _
  ·rw [hsub] at e; cases e; exact hc
 rw [hsub] at q2 q4 q5
 refine (Grow_walk B0 (L.ι 1000) n cap p ao w q2 q3 q4 h hcap hB0 q5).mono ?_
 rintro e w' ⟨rfl, hk, v', k1, k2, k3⟩
 rw [← hsub] at hk k3 q2 q4 q5
 let L' : Lay := { L with sub := upd L.sub 1000 (upd (L.sub 1000) (v + 1) fun _ => v'), top := upd L.top 1000 (v + 1) }
 have s1 : L'.sub 1000 (v + 1) 0 = v' := by simp only [L', upd_same]
 have s2 : L'.top 1000 = v + 1 := by show upd L.top 1000 (v + 1) 1000 = v + 1; exact upd_same _ _ _
 have hAk : ∀ g o, A g o → w'.heap[g]? = w.heap[g]? := fun g o ha => hk.same g (hA g o ha) (fun e => q6 g (.inl e) o ha) (fun e => q6 g (.inr e) o ha)
 have hown : ∀ g, own L' 1000 (.bld (v + 1) 76 5 ⟨#[]⟩) g → own L 1000 (.bld v 76 5 ⟨#[]⟩) g ∨ g = w.heap.size := by
  rintro g (hg | hg)
  ·exact .inl (.inl hg)
  ·rw [s1] at hg
   rcases k3 with e | e
   ·exact .inl (.inr (by rw [← e]; exact hg))
   ·rw [e] at hg; cases hg; exact .inr rfl
 have hlo : ∀ g, own L 1000 (.bld v 76 5 ⟨#[]⟩) g → B0 ≤ g ∧ g < w.heap.size := fun g hg => hH.lo 1000 _ g hl hg
 have hnb : v'.ownBlock ≠ some (L.ι 1000) := by
  rcases k3 with e | e
  ·rw [e]; exact q5
  ·rw [e]; intro h
   have := (hlo _ (.inl rfl)).2
   have h2 := Option.some.inj h
   omega
 refine ⟨_, A, L', rfl, .tup rfl fun j c u hc hu => by simp at hc, hk.os, ⟨hk.tape, trivial⟩, hk.output, hk.size, fun k hks hn => hk.same k hks (fun e => hn (hclm (.inl e))) (fun e => hn (hclm (.inr e))), fun _ _ h => h,
  fun g o ha => World.cell?_of_block (w := w) (hAk g o ha), fun g o ha => Nat.lt_of_lt_of_le (hA g o ha) hk.size, fun g o ha => .inl ha, ⟨fun b x hx => ?_, fun b x g hx ho => ?_, fun b b' x x' g hx hx' _ _ => ?_, fun b x b' hx hm => ?_⟩,
  fun g hg => ?_, fun b hb hb' => ?_, fun b hb => by cases hb⟩
 ·obtain ⟨rfl, rfl⟩ := lk_one hx
  refine ⟨s2.symm, ⟨_, by rw [s1]; exact k1, .inr rfl⟩, ?_, by rw [s1]; exact hnb, fun g ho o ha => ?_⟩
  ·rw [s1]; exact k2
  ·rcases hown g ho with h1 | h1
   ·exact q6 g h1 o ha
   ·have := hA g o ha; omega
 ·obtain ⟨rfl, rfl⟩ := lk_one hx
  have hs := hk.size
  rcases hown g ho with h1 | h1
  ·have := hlo g h1; omega
  ·subst h1
   refine ⟨hB0, ?_⟩
   rcases ho with ho | ho
   ·have := (hlo _ (.inl ho)).2; omega
   ·rw [s1] at ho; exact (row_lt k2 ho).1
 ·rw [(lk_one hx).1, (lk_one hx').1]
 ·obtain ⟨rfl, rfl⟩ := lk_one hx; cases hm
 ·obtain ⟨b, x, hx, ho⟩ := hg
  obtain ⟨rfl, rfl⟩ := lk_one hx
  rcases hown g ho with h1 | h1
  ·exact .inr (hclm h1)
  ·exact .inl (by omega)
 ·by_cases e : b = 1000
  ·subst e
   refine ⟨rfl, rfl, by rw [s2, ← q1]; exact Nat.le_succ _, fun v0 hv0 i => ?_⟩
   have : v0 ≠ v + 1 := by omega
   simp only [L', upd_same]
   rw [upd_ne _ _ this]
  ·exact absurd (show lk [(1000, Bx.bld v 76 5 ⟨#[]⟩)] b = none by rw [lk_c, if_neg e]; rfl) hb
end Go.Proofs.Tryz
end

section
namespace Go.Proofs.Tryz
open Go Go.Vm Go.Plain
set_option maxRecDepth 20000
set_option maxHeartbeats 4000000
theorem dig_ext {d : Nat} (h : d < 10) : (⟨#[48, 49, 50, 51, 52, 53, 54, 55, 56, 57]⟩ : ByteArray).extract d (d + 1) = ⟨#[UInt8.ofNat (48 + d)]⟩ := by
 match d, h with
 | 0, _ | 1, _ | 2, _ | 3, _ | 4, _ | 5, _ | 6, _ | 7, _ | 8, _ | 9, _ => rfl
theorem ev_Decimal (n : Int) (hn : -9223372036854775800 ≤ n ∧ n ≤ 9223372036854775800) : Ev Tryz.prog 54 [.int .i64 n] (.str (itoaB n)) := by
 have hb := itoaB_size n (by omega)
 have hlen : (Lib.decDigits n.natAbs).length ≤ 21 := by
  rw [ba_size, itoaB_list, itoa_sign] at hb
  simp only [List.length_append] at hb
  omega
 have z0 : (⟨#[]⟩ : ByteArray).size = 0 := rfl
 have z1 : (⟨#[45]⟩ : ByteArray).size = 1 := rfl
 have z9 : (⟨#[48, 49, 50, 51, 52, 53, 54, 55, 56, 57]⟩ : ByteArray).size = 10 := rfl
 have fin : ∀ (sg : ByteArray), sg.data.toList = (if n < 0 then [45] else []) → ∀ s : ByteArray, s.data.toList = Lib.decDigits n.natAbs → sg ++ s = itoaB n := by
  intro sg h1 s h2
  refine ba_ext ?_
  rw [ba_app, h1, h2, itoaB_list, itoa_sign]
 refine ev_of_awp tysOk mixed (fn := Tryz.f54) Tryz.func54 rfl rfl rfl ?_
 conv => whnf
 repeat' (first|((with_reducible refine Split.dec (fun _=>?_) (fun _=>?_))<;>conv=>whnf)|fail)
 all_goals refine LoopK.o2 (fun r : Int × ByteArray => DecAt n r.1 r.2.data.toList ∧ r.1.natAbs ≤ n.natAbs) (fun r => [(0, .d (.int .i64 r.1)), (4, .d (.str r.2))]) (fun _ => []) (fun r => r.1.natAbs + if r.2.data.toList = [] then 1 else 0) (n, ⟨#[]⟩) ⟨.inl ⟨rfl, rfl⟩, Nat.le_refl _⟩ (by refine ⟨?_, ?_, rfl⟩<;>(repeat' (first|exact True.intro|exact rfl|(refine ⟨?_,?_⟩)|fail));done) ?_
 all_goals
  rintro ⟨m, s⟩ ⟨hI, hm⟩
  have hm : m.natAbs ≤ n.natAbs := hm
  have hl := hI.len
  have hl : s.size ≤ 21 := by rw [ba_size]; exact Nat.le_trans hl hlen
  have ht : -10 < (m, s).1.tmod 10 ∧ (m, s).1.tmod 10 < 10 := by
   show -10 < m.tmod 10 ∧ m.tmod 10 < 10
   have h1 : (m.tmod 10).natAbs = m.natAbs % 10 := Int.natAbs_tmod m 10
   omega
  have hx : maxI ((m, s).1.tmod 10) (0 - (m, s).1.tmod 10) = ((m.natAbs % 10 : Nat) : Int) := dig_abs m
  have hz : ((⟨#[48, 49, 50, 51, 52, 53, 54, 55, 56, 57]⟩ : ByteArray).extract (maxI (m.tmod 10) (0 - m.tmod 10)).toNat (maxI (m.tmod 10) (0 - m.tmod 10) + 1).toNat) = ⟨#[UInt8.ofNat (48 + m.natAbs % 10)]⟩ := by
   have hx : maxI (m.tmod 10) (0 - m.tmod 10) = ((m.natAbs % 10 : Nat) : Int) := hx
   rw [hx]; exact dig_ext (by omega)
  have hz1 : ((⟨#[48, 49, 50, 51, 52, 53, 54, 55, 56, 57]⟩ : ByteArray).extract (maxI ((m, s).1.tmod 10) (0 - (m, s).1.tmod 10)).toNat (maxI ((m, s).1.tmod 10) (0 - (m, s).1.tmod 10) + 1).toNat).size = 1 := congrArg ByteArray.size hz
  have hmp1 : D.str ((⟨#[48, 49, 50, 51, 52, 53, 54, 55, 56, 57]⟩ : ByteArray).extract (maxI (m.tmod 10) (0 - m.tmod 10)).toNat (maxI (m.tmod 10) (0 - m.tmod 10) + 1).toNat ++ s) = D.str ((⟨#[UInt8.ofNat (48 + m.natAbs % 10)]⟩ : ByteArray) ++ s) := by rw [hz]
  have hmp2 := congrArg AV.d hmp1
  have hm2 : -9223372036854775800 ≤ (m, s).1 ∧ (m, s).1 ≤ 9223372036854775800 := by
   show -9223372036854775800 ≤ m ∧ m ≤ 9223372036854775800
   omega
  have hl2 : (m, s).2.size ≤ 21 := hl
  have nx : (s.data.toList = [] ∨ m ≠ 0) → DecAt n (m.tdiv 10) ((⟨#[UInt8.ofNat (48 + m.natAbs % 10)]⟩ : ByteArray) ++ s).data.toList := fun h => by
   rw [ba_app]; exact hI.step h
  have nm : (m.tdiv 10).natAbs ≤ n.natAbs := by rw [div_abs]; omega
  have nd : (s.data.toList = [] ∨ m ≠ 0) → (m.tdiv 10).natAbs + (if ((⟨#[UInt8.ofNat (48 + m.natAbs % 10)]⟩ : ByteArray) ++ s).data.toList = [] then 1 else 0) < m.natAbs + (if s.data.toList = [] then 1 else 0) := fun h => by
   rw [if_neg (by rw [ba_app]; simp), div_abs]
   rcases h with h | h
   ·rw [if_pos h]; omega
   ·split <;> omega
  have se : ∀ x : (m, s).2 = ⟨#[]⟩, s.data.toList = [] := fun x => by rw [show s = ⟨#[]⟩ from x]
  conv => whnf
  repeat' (first|((with_reducible refine Split.of_true ?_);conv=>whnf)|((with_reducible refine Split.nez (fun _=>?_) (fun _=>?_))<;>conv=>whnf)|((with_reducible refine Split.streq (fun _=>?_) (fun _=>?_))<;>conv=>whnf)|((with_reducible refine Need.mk ?_ ?_);(first|omega|rfl|decide|(refine ⟨?_,?_⟩<;>simp<;>omega)|(simp;omega));conv=>whnf)|((with_reducible refine Wr.inr ?_ ?_);(first|omega|(simp;omega));conv=>whnf)|fail)
  all_goals first
   |(have h0 : s.data.toList = [] ∨ m ≠ 0 := .inl (se (by assumption))
     exact Again.au (m.tdiv 10, (⟨#[UInt8.ofNat (48 + m.natAbs % 10)]⟩ : ByteArray) ++ s) ⟨nx h0, nm⟩ (nd h0) (by refine ⟨?_, ?_, rfl⟩<;>(repeat' (first|exact True.intro|exact rfl|(refine ⟨?_,?_⟩)|exact hmp2|fail));done))
   |(have h0 : s.data.toList = [] ∨ m ≠ 0 := .inr (by assumption)
     exact Again.au (m.tdiv 10, (⟨#[UInt8.ofNat (48 + m.natAbs % 10)]⟩ : ByteArray) ++ s) ⟨nx h0, nm⟩ (nd h0) (by refine ⟨?_, ?_, rfl⟩<;>(repeat' (first|exact True.intro|exact rfl|(refine ⟨?_,?_⟩)|exact hmp2|fail));done))
   |(have h0 : m = 0 := by assumption
     have h1 : s ≠ ⟨#[]⟩ := by assumption
     subst h0
     refine congrArg D.str (fin _ ?_ s (hI.fin fun h => h1 (ba_ext h)))
     first
      |(rw [if_pos (by assumption)]; done)
      |(rw [if_neg (by assumption)]; done))
end Go.Proofs.Tryz
end

section
namespace Go.Proofs.Tryz
open Go Go.Vm Go.Plain
set_option maxRecDepth 20000
set_option maxHeartbeats 4000000
def wD (x : List UInt8) : D := .str (ofL x)
theorem take_one {α : Type} {l : List α} {i : Nat} {b : α} (h : l[i]? = some b) : l.take (i + 1) = l.take i ++ [b] := by
 rw [List.take_add_one, h]; rfl
theorem ext_one {s : ByteArray} {i : Nat} {b : UInt8} (h : s.data.toList[i]? = some b) : s.extract i (i + 1) = ofL [b] := by
 refine ba_ext ?_
 have hlt := lt_of_get h
 rw [show (s.extract i (i + 1)).data.toList = (s.data.toList.drop i).take 1 by
  rw [ByteArray.data_extract, Array.toList_extract]; simp]
 rw [ofL_list, List.drop_eq_getElem_cons hlt, (List.getElem?_eq_some_iff.1 h).2]
 rfl
theorem ev_BaseCut (s : ByteArray) (c : UInt8) (hs : s.size ≤ 1000000) : Ev Tryz.prog 34 [.str s, .int .u8 (c.toNat : Int)] (.sl 1 ((spl c s.data.toList).map wD)) := by
 refine ev_of_awp tysOk mixed (fn := Tryz.f34) Tryz.func34 rfl rfl rfl ?_
 conv => whnf
 skip
 refine LoopK.o2 (fun r : Nat × List (List UInt8) × List UInt8 => r.1 ≤ s.size ∧ spl c (s.data.toList.take r.1) = r.2.1 ++ [r.2.2]) (fun r => [(6, .d (.int .i64 r.1)), (5, .own 200 1 (r.2.1.length + 1))]) (fun r => [(200, .row 9 1 (r.2.1.map wD ++ [wD r.2.2]) false)]) (fun r => s.size - r.1) (0, [], []) ⟨Nat.zero_le _, rfl⟩ (by refine ⟨?_, ?_, rfl⟩<;>(repeat' (first|exact True.intro|exact rfl|(refine ⟨?_,?_⟩)|(intro h;cases h;done)|fail));done) ?_
 rintro ⟨i, o, x⟩ ⟨hi, hI⟩
 have hi : i ≤ s.size := hi
 have hI : spl c (s.data.toList.take i) = o ++ [x] := hI
 have hz := spl_size c (s.data.toList.take i)
 have hz2 := spl_each c (s.data.toList.take i) x (by rw [hI]; simp)
 rw [hI] at hz
 rw [List.length_take] at hz hz2
 simp only [List.length_append, List.length_cons, List.length_nil] at hz
 have hol : (o.map wD).length = o.length := List.length_map _
 by_cases hil : i < s.size
 ·obtain ⟨b, hb⟩ := some_of_lt (l := s.data.toList) (i := i) (by rw [← ba_size]; exact hil)
  have hba : bAt s (i : Int).toNat = (b.toNat : Int) := by show bAt s i = _; unfold bAt; rw [hb]
  have hx := ext_one hb
  have hj : (((o.map wD ++ [wD x]).length : Int) - 1).toNat = o.length := by rw [List.length_append, hol]; simp
  have hp : (o.map wD ++ [wD x])[(((o.map wD ++ [wD x]).length : Int) - 1).toNat]? = some (wD x) := by
   rw [hj, List.getElem?_append_right (by omega)]; simp [hol]
  have hl1 : (o.map wD ++ [wD x]).length = o.length + 1 := by simp
  have nx := spl_last c b hI
  rw [← take_one hb] at nx
  have hxs : (ofL x).size ≤ 1000000 := by rw [ofL_size]; omega
  have hes : (s.extract i (i + 1)).size = 1 := by rw [hx]; rfl
  conv => whnf
  repeat' (first|((refine PickE.mk (wD x) hp ?_);conv=>whnf)|((with_reducible refine Split.eqz (fun _=>?_) (fun _=>?_))<;>conv=>whnf)|((with_reducible refine Split.dec (fun _=>?_) (fun _=>?_))<;>conv=>whnf)|((with_reducible refine Need.mk ?_ ?_);(first|omega|rfl|decide|(refine ⟨?_,?_⟩<;>simp<;>omega)|(simp;omega));conv=>whnf)|((with_reducible refine Wr.inr ?_ ?_);(first|omega|(simp;omega));conv=>whnf)|(exfalso;first|omega|contradiction)|fail)
  ·have h1 : bAt s (i : Int).toNat = (c.toNat : Int) := by assumption
   have h0 : b = c := UInt8.toNat_inj.1 (by omega)
   rw [if_pos h0] at nx
   have hmp1 : o.map wD ++ [wD x] ++ [D.str ⟨#[]⟩] = (o ++ [x]).map wD ++ [wD []] := by rw [List.map_append]; rfl
   exact Again.au (i + 1, o ++ [x], []) ⟨by show i + 1 ≤ s.size;omega, nx⟩ (by show s.size - (i + 1) < s.size - i;omega) (by refine ⟨?_, ?_, rfl⟩<;>(repeat' (first|exact True.intro|exact rfl|(refine ⟨?_,?_⟩)|(intro h;cases h;done)|(refine own_congr ?_;simp;done)|exact hmp1|fail));done)
  ·have h1 : bAt s (i : Int).toNat ≠ (c.toNat : Int) := by assumption
   have h0 : b ≠ c := fun e => h1 (by rw [hba, e])
   rw [if_neg h0] at nx
   have hmp1 : (o.map wD ++ [wD x]).set (((o.map wD ++ [wD x]).length : Int) - 1).toNat (D.str (ofL x ++ s.extract (i : Int).toNat ((i : Int) + 1).toNat)) = o.map wD ++ [wD (x ++ [b])] := by
    have e1 : ((i : Int) + 1).toNat = i + 1 := by omega
    rw [hj, e1, show (i : Int).toNat = i from rfl, hx, ofL_app, ← hol, List.set_append_right _ _ (Nat.le_refl _), Nat.sub_self]
    rfl
   exact Again.au (i + 1, o, x ++ [b]) ⟨by show i + 1 ≤ s.size;omega, nx⟩ (by show s.size - (i + 1) < s.size - i;omega) (by refine ⟨?_, ?_, rfl⟩<;>(repeat' (first|exact True.intro|exact rfl|(refine ⟨?_,?_⟩)|(intro h;cases h;done)|exact hmp1|fail));done)
 ·conv => whnf
  repeat' (first|((with_reducible refine Split.eqz (fun _=>?_) (fun _=>?_))<;>conv=>whnf)|((with_reducible refine Split.dec (fun _=>?_) (fun _=>?_))<;>conv=>whnf)|((with_reducible refine Need.mk ?_ ?_);(first|omega|rfl|decide|(refine ⟨?_,?_⟩<;>simp<;>omega)|(simp;omega));conv=>whnf)|((with_reducible refine Wr.inr ?_ ?_);(first|omega|(simp;omega));conv=>whnf)|(exfalso;first|omega|contradiction)|fail)
  rw [List.take_of_length_le (by rw [← ba_size]; omega)] at hI
  rw [hI, List.map_append]
  rfl
end Go.Proofs.Tryz
end

section
namespace Go.Proofs.Tryz
open Go Go.Vm Go.Plain
set_option maxRecDepth 20000
set_option maxHeartbeats 4000000
theorem ev_Join (ws : List (List UInt8)) (hn : ws.length ≤ 100000) (hw : ∀ w ∈ ws, w.length ≤ 100000) : Ev Tryz.prog 52 [.sl 1 (ws.map wD), .str ⟨#[32]⟩] (.str (ofL (joinW ws))) := by
 have hl : (ws.map wD).length = ws.length := List.length_map _
 have z1 : (⟨#[32]⟩ : ByteArray).size = 1 := rfl
 have hG : ∀ v (n : Nat), n ≤ 1099511627776 → EvX Tryz.prog 75 [.ptr 8 0, .d (.int .i64 n)] [(8, .bld v 76 5 ⟨#[]⟩)] (.tup []) [(8, .bld (v + 1) 76 5 ⟨#[]⟩)] := fun v n h => (xv_Grow v n h).rn [(1000, 8)] rfl
 have hW : ∀ v t (s : ByteArray), t.size + s.size ≤ 140737488355328 → EvX Tryz.prog 28 [.ptr 8 0, .d (.str s)] [(8, .bld v 76 5 t)] (.tup [.d (.int .i64 s.size), .d (.ifc false)]) [(8, .bld (v + 1) 76 5 (t ++ s))] := fun v t s h => (xv_ws v t s h).rn [(1000, 8)] rfl
 have hS : ∀ v s, EvX Tryz.prog 29 [.ptr 8 0] [(8, .bld v 76 5 s)] (.d (.str s)) [(8, .gone)] := fun v s => (xv_str v s).rn [(1000, 8)] rfl
 match ws, hn, hw, hl with
 | [], _, _, _ =>
  refine ev_of_awp tysOk mixed (fn := Tryz.f52) Tryz.func52 rfl rfl rfl ?_
  conv => whnf
  repeat' (first|((with_reducible refine Split.is_true ?_ ?_);decide;conv=>whnf)|fail)
  all_goals first
   | rfl
   |(exfalso; simp at *)
 | [w], _, _, _ =>
  have h1 : ([w].map wD).length = 1 := rfl
  refine ev_of_awp tysOk mixed (fn := Tryz.f52) Tryz.func52 rfl rfl rfl ?_
  conv => whnf
  repeat' (first|((refine PickE.mk (wD w) rfl ?_);conv=>whnf)|((with_reducible refine Split.is_true ?_ ?_);decide;conv=>whnf)|((with_reducible refine Split.eqz (fun _=>?_) (fun _=>?_))<;>conv=>whnf)|((with_reducible refine Split.dec (fun _=>?_) (fun _=>?_))<;>conv=>whnf)|((with_reducible refine Need.mk ?_ ?_);(first|omega|rfl|decide|(refine ⟨?_,?_⟩<;>simp<;>omega)|(simp;omega));conv=>whnf)|((with_reducible refine Wr.quo ?_ ?_ ?_ ?_);omega;omega;omega;conv=>whnf)|((with_reducible refine Wr.inr ?_ ?_);(first|omega|(simp;omega));conv=>whnf)|(exfalso;first|omega|contradiction)|fail)
  all_goals first
   |(exfalso; omega)
   | rfl
 | w :: v :: r, hn, hw, hl =>
  have h1 : ((w :: v :: r).map wD).length = r.length + 2 := by simp
  have hn : r.length + 2 ≤ 100000 := by simpa using hn
  have hq : 2 ≤ 9223372036854775807 / ((((w :: v :: r).map wD).length : Int) - 1) := Int.le_ediv_of_mul_le (by omega) (by omega)
  have hm : ((⟨#[32]⟩ : ByteArray).size : Int) * ((((w :: v :: r).map wD).length : Int) - 1) = (r.length : Int) + 1 := by rw [z1, h1]; omega
  refine ev_of_awp tysOk mixed (fn := Tryz.f52) Tryz.func52 rfl rfl rfl ?_
  conv => whnf
  repeat' (first|((with_reducible refine Split.is_true ?_ ?_);decide;conv=>whnf)|((with_reducible refine Split.eqz (fun _=>?_) (fun _=>?_))<;>conv=>whnf)|((with_reducible refine Split.dec (fun _=>?_) (fun _=>?_))<;>conv=>whnf)|((with_reducible refine Need.mk ?_ ?_);(first|omega|rfl|decide|(refine ⟨?_,?_⟩<;>simp<;>omega)|(simp;omega));conv=>whnf)|((with_reducible refine Wr.quo ?_ ?_ ?_ ?_);omega;omega;omega;conv=>whnf)|((with_reducible refine Wr.inr ?_ ?_);(first|omega|(simp;omega));conv=>whnf)|(exfalso;first|omega|contradiction)|fail)
  all_goals try (exfalso; omega)
  refine LoopK.o2 (fun q : Nat × Nat => q.1 ≤ r.length + 2 ∧ q.2 ≤ 200000 + 100000 * q.1) (fun q => [(41, .d (.int .i64 q.1)), (5, .d (.int .i64 q.2))]) (fun _ => []) (fun q => r.length + 2 - q.1) (0, r.length + 1) ⟨Nat.zero_le _, by show r.length + 1 ≤ _;omega⟩ (by refine ⟨?_, ?_, rfl⟩<;>(repeat' (first|exact True.intro|exact rfl|(refine ⟨?_,?_⟩)|(refine int_congr ?_;(first|omega|(simp;omega)))|fail));done) ?_
  rintro ⟨i, n⟩ ⟨hi, hb⟩
  have hi : i ≤ r.length + 2 := hi
  have hb : n ≤ 200000 + 100000 * i := hb
  by_cases hil : i < r.length + 2
  ·obtain ⟨x, hx⟩ := some_of_lt (l := w :: v :: r) (i := i) (by simpa using hil)
   have hxw := hw x (List.mem_of_getElem? hx)
   have hxs : (ofL x).size ≤ 100000 := by rw [ofL_size]; exact hxw
   conv => whnf
   repeat' (first|((refine PickE.map i hx (by omega) ?_);conv=>whnf)|((with_reducible refine Split.dec (fun _=>?_) (fun _=>?_))<;>conv=>whnf)|((with_reducible refine Need.mk ?_ ?_);(first|omega|rfl|decide|(refine ⟨?_,?_⟩<;>simp<;>omega)|(simp;omega));conv=>whnf)|((with_reducible refine Wr.inr ?_ ?_);(first|omega|(simp;omega));conv=>whnf)|(exfalso;first|omega|contradiction)|fail)
   all_goals first
    |(exfalso; dsimp only at *; omega)
    | exact Again.au (i + 1, n + (ofL x).size) ⟨by show i + 1 ≤ _;omega, by show n + (ofL x).size ≤ 200000 + 100000 * (i + 1);omega⟩ (by show r.length + 2 - (i + 1) < r.length + 2 - i;omega) (by refine ⟨?_, ?_, rfl⟩<;>(repeat' (first|exact True.intro|exact rfl|(refine ⟨?_,?_⟩)|fail));done)
  ·have hw0 := hw w List.mem_cons_self
   have hs0 : (ofL w).size ≤ 100000 := by rw [ofL_size]; exact hw0
   have z0 : (⟨#[]⟩ : ByteArray).size = 0 := rfl
   conv => whnf
   repeat' (first|((refine PickE.mk (wD w) rfl ?_);conv=>whnf)|((with_reducible refine Split.dec (fun _=>?_) (fun _=>?_))<;>conv=>whnf)|((with_reducible refine Need.mk ?_ ?_);(first|omega|rfl|decide|(refine ⟨?_,?_⟩<;>simp<;>omega)|(simp;omega));conv=>whnf)|((with_reducible refine AltK.r ?_);(conv=>whnf);(first|(refine CallX.mk _ _ (hG _ _ (by show n ≤ _;omega)) rfl ?_)|(refine CallX.mk _ _ (hW _ _ _ (by omega)) rfl ?_));conv=>whnf)|(exfalso;first|omega|contradiction)|fail)
   all_goals try (exfalso; dsimp only at *; omega)
   have e0 : (⟨#[]⟩ : ByteArray) ++ ofL w = ofL w := ba_ext (by rw [ba_app]; rfl)
   have el : List.drop (Int.toNat 1) (List.take ((((w :: v :: r).map wD).length : Int)).toNat ((w :: v :: r).map wD)) = (v :: r).map wD := by
    rw [List.take_of_length_le (by rw [h1]; omega)]; rfl
   have el1 : (List.drop (Int.toNat 1) (List.take ((((w :: v :: r).map wD).length : Int)).toNat ((w :: v :: r).map wD))).length = r.length + 1 := by rw [el]; simp
   refine LoopK.o2 (fun q : Nat × List UInt8 => q.1 ≤ r.length + 1 ∧ catW q.2 ((v :: r).drop q.1) = joinW (w :: v :: r) ∧ q.2.length ≤ 100000 + 100001 * q.1) (fun q => [(65, .d (.int .i64 q.1))]) (fun q => [(8, .bld 0 76 5 (ofL q.2))]) (fun q => r.length + 1 - q.1)
    (0, w) ⟨Nat.zero_le _, catW_join (v :: r) w, by show w.length ≤ _;omega⟩ (by refine ⟨?_, ?_, rfl⟩<;>(repeat' (first|exact True.intro|exact rfl|(refine ⟨?_,?_⟩)|(intro h;cases h;done)|fail));done) ?_
   rintro ⟨j, s⟩ ⟨hj, hc, hsl⟩
   have hj : j ≤ r.length + 1 := hj
   have hsl : s.length ≤ 100000 + 100001 * j := hsl
   have hss : (ofL s).size ≤ 100000 + 100001 * j := by rw [ofL_size]; exact hsl
   by_cases hjl : j < r.length + 1
   ·obtain ⟨x, hx⟩ := some_of_lt (l := v :: r) (i := j) (by simpa using hjl)
    have hxw := hw x (List.mem_cons_of_mem _ (List.mem_of_getElem? hx))
    have hxs : (ofL x).size ≤ 100000 := by rw [ofL_size]; exact hxw
    have hp : (List.drop (Int.toNat 1) (List.take ((((w :: v :: r).map wD).length : Int)).toNat ((w :: v :: r).map wD)))[(j : Int).toNat]? = some (wD x) := by
     rw [el, List.getElem?_map, show (j : Int).toNat = j from rfl, hx]; rfl
    have hc : catW s ((v :: r).drop j) = joinW (w :: v :: r) := hc
    rw [drop_of hx] at hc
    have e1 : ofL s ++ (⟨#[32]⟩ : ByteArray) ++ ofL x = ofL (s ++ 32 :: x) := ba_ext (by rw [ba_app, ba_app, ofL_list, ofL_list, ofL_list]; simp)
    conv => whnf
    repeat' (first|((refine PickE.mk (wD x) hp ?_);conv=>whnf)|((with_reducible refine Split.dec (fun _=>?_) (fun _=>?_))<;>conv=>whnf)|((with_reducible refine Need.mk ?_ ?_);(first|omega|rfl|decide|(refine ⟨?_,?_⟩<;>simp<;>omega)|(simp;omega));conv=>whnf)|((with_reducible refine Wr.inr ?_ ?_);(first|omega|(simp;omega));conv=>whnf)|((with_reducible refine AltK.r ?_);(conv=>whnf);(first|(refine CallX.mk _ _ (hW _ _ _ (by simp only [ByteArray.size_append];omega)) rfl ?_));conv=>whnf)|(exfalso;first|omega|contradiction)|fail)
    all_goals first
     |(exfalso; dsimp only at *; omega)
     | exact Again.au (j + 1, s ++ 32 :: x) ⟨by show j + 1 ≤ _;omega, hc, by show (s ++ 32 :: x).length ≤ 100000 + 100001 * (j + 1);simp only [List.length_append, List.length_cons];omega⟩ (by show r.length + 1 - (j + 1) < r.length + 1 - j;omega) (by refine ⟨?_, ?_, rfl⟩<;>(repeat' (first|exact True.intro|exact rfl|(refine ⟨?_,?_⟩)|(intro h;cases h;done)|((first|refine own_congr ?_|refine int_congr ?_|skip);simp [e1];done)|fail));done)
   ·have hse : s = joinW (w :: v :: r) := by
     rw [← hc]
     show s = catW s ((v :: r).drop j)
     rw [List.drop_eq_nil_of_le (by simp; omega)]; rfl
    conv => whnf
    repeat' (first|((with_reducible refine Split.dec (fun _=>?_) (fun _=>?_))<;>conv=>whnf)|((with_reducible refine Need.mk ?_ ?_);(first|omega|rfl|decide|(refine ⟨?_,?_⟩<;>simp<;>omega)|(simp;omega));conv=>whnf)|((with_reducible refine AltK.r ?_);(conv=>whnf);(first|(refine CallX.mk _ _ (hS _ _) rfl ?_));conv=>whnf)|(exfalso;first|omega|contradiction)|fail)
    all_goals first
     |(exfalso; dsimp only at *; omega)
     |(show D.str (ofL s) = D.str (ofL (joinW (w :: v :: r))); rw [hse])
end Go.Proofs.Tryz
end

section
open Go Go.Shelf
namespace Go.Proofs
def ly_LyCu_ren : Shelf.Ren := ⟨fun | 145 => 63 | 220 => 81 | 219 => 129 | 217 => 155 | 225 => 156 | 224 => 157 | 267 => 158 | 266 => 171 | 314 => 172 | n => n, fun | 9 => 9 | 4 => 4 | 59 => 116 | 3 => 3 | 5 => 5 | 46 => 123 | 146 => 218 | 51 => 151 | n => n, fun | 1 => 2 | n => n⟩
theorem ly_LyCu : Go.Proofs.Lays.n145 Tryz.prog ly_LyCu_ren where
 mixed := by kernel_rfl
 f145 := Tryz.func63.trans (congrArg some (by kernel_rfl))
 f217 := Tryz.func155.trans (congrArg some (by kernel_rfl))
 f219 := Tryz.func129.trans (congrArg some (by kernel_rfl))
 f220 := Tryz.func81.trans (congrArg some (by kernel_rfl))
 f224 := Tryz.func157.trans (congrArg some (by kernel_rfl))
 f225 := Tryz.func156.trans (congrArg some (by kernel_rfl))
 f266 := Tryz.func171.trans (congrArg some (by kernel_rfl))
 f267 := Tryz.func158.trans (congrArg some (by kernel_rfl))
 f314 := Tryz.func172.trans (congrArg some (by kernel_rfl))
 t3 := Tryz.underlying3
 a3 := Tryz.isAgg3
 z3 := Tryz.sizeOf3
 v3 := Tryz.zeroValue3
 t4 := Tryz.underlying4
 a4 := Tryz.isAgg4
 z4 := Tryz.sizeOf4
 v4 := Tryz.zeroValue4
 t5 := Tryz.underlying5
 a5 := Tryz.isAgg5
 z5 := Tryz.sizeOf5
 v5 := Tryz.zeroValue5
 t9 := Tryz.underlying9
 a9 := Tryz.isAgg9
 z9 := Tryz.sizeOf9
 v9 := Tryz.zeroValue9
 t46 := Tryz.underlying123
 a46 := Tryz.isAgg123
 z46 := Tryz.sizeOf123
 v46 := Tryz.zeroValue123
 t51 := Tryz.underlying151
 a51 := Tryz.isAgg151
 z51 := Tryz.sizeOf151
 v51 := Tryz.zeroValue151
 t59 := Tryz.underlying116
 a59 := Tryz.isAgg116
 z59 := Tryz.sizeOf116
 v59 := Tryz.zeroValue116
 t146 := Tryz.underlying218
 a146 := Tryz.isAgg218
 z146 := Tryz.sizeOf218
 v146 := Tryz.zeroValue218
 g1 := by kernel_rfl
end Go.Proofs
end

section
namespace Go.Proofs.Tryz
open Go Go.Vm Go.Plain
set_option maxRecDepth 20000
set_option maxHeartbeats 4000000
theorem itoa_len (n : Int) (h : -9223372036854775808 ≤ n ∧ n ≤ 9223372036854775807) : (Lib.itoa n).length ≤ 21 := by
 have := itoaB_size n h
 rwa [ba_size, itoaB_list] at this
def numsD (o : Option (List Int)) : D := match o with
 | some l => .tup [.sl 1 (l.map iD), .bool true]
 | none => .tup [.sl 1 [], .bool false]
theorem ev_CutNl (l : List UInt8) (h : l.length ≤ 1000000) : Ev Tryz.prog 63 [wD l, .str ⟨#[10]⟩] (.tup [wD (cutL 10 l).1, wD (cutL 10 l).2.1, .bool (cutL 10 l).2.2]) := by
 have := Ev.cut ly_LyCu (List.mem_cons_of_mem _ List.mem_cons_self) (ofL l) ⟨#[10]⟩ (by rw [ofL_size]; omega)
 have e : cutD (ofL l) ⟨#[10]⟩ = .tup [wD (cutL 10 l).1, wD (cutL 10 l).2.1, .bool (cutL 10 l).2.2] := by
  unfold cutD
  have : Lib.cut (ofL l).data.toList (⟨#[10]⟩ : ByteArray).data.toList = cutL 10 l := cut_one 10 l
  rw [this]
  rfl
 rw [← e]
 exact this
theorem ev_SplitSp (l : List UInt8) (h : l.length ≤ 1000000) : Ev Tryz.prog 56 [wD l, .str ⟨#[32]⟩] (.sl 1 ((spl 32 l).map wD)) := by
 have := ev_Split (ofL l) ⟨#[32]⟩ (by rw [ofL_size]; omega) (by decide)
 rw [splitD_eq, ofL_list, List.map_map] at this
 exact this
theorem atoiD_ok {w : List UInt8} {v : Int} (h : Lib.atoiAll w = .ok v) : atoiD (ofL w) = .tup [.int .i64 v, .ifc false] := by
 unfold atoiD
 rw [ofL_list, h]
theorem atoiD_no {w : List UInt8} (h : ∀ v, Lib.atoiAll w ≠ .ok v) : ∃ k, atoiD (ofL w) = .tup [.int .i64 k, .ifc true] := by
 unfold atoiD
 rw [ofL_list]
 split
 ·rename_i v hv; exact absurd hv (h v)
 ·exact ⟨_, rfl⟩
 ·exact ⟨_, rfl⟩
theorem ev_joined (l : List Int) (hl : l.length ≤ 10000) (hb : ∀ n ∈ l, -9223372036854775808 ≤ n ∧ n ≤ 9223372036854775807) : Ev Tryz.prog 21 [.sl 1 (l.map iD)] (wD (joinW (l.map Lib.itoa))) := by
 have hll : (l.map iD).length = l.length := List.length_map _
 refine ev_of_awp tysOk mixed (fn := Tryz.f21) Tryz.func21 rfl rfl rfl ?_
 conv => whnf
 skip
 refine LoopK.o2 (fun q : Nat => q ≤ l.length) (fun q => [(8, .d (.int .i64 q)), (3, .own 200 1 q)]) (fun q => [(200, .row 9 1 (((l.take q).map Lib.itoa).map wD) false)]) (fun q => l.length - q) 0 (Nat.zero_le _) (by refine ⟨?_, ?_, rfl⟩<;>(repeat' (first|exact True.intro|exact rfl|(refine ⟨?_,?_⟩)|fail));done) ?_
 rintro q hq
 have hq : q ≤ l.length := hq
 have hlt : (l.take q).length = q := by rw [List.length_take]; omega
 have hlm : (((l.take q).map Lib.itoa).map wD).length = q := by simp; omega
 by_cases hql : q < l.length
 ·obtain ⟨n, hx⟩ := some_of_lt hql
  have hI := ev_Itoa n (hb n (List.mem_of_getElem? hx))
  have hmp1 : ((l.take q).map Lib.itoa).map wD ++ [D.str (itoaB n)] = ((l.take (q + 1)).map Lib.itoa).map wD := by
   rw [take_one hx]; simp only [List.map_append]; rfl
  conv => whnf
  repeat' (first|((refine PickE.map q hx (by omega) ?_);conv=>whnf)|((with_reducible refine Split.dec (fun _=>?_) (fun _=>?_))<;>conv=>whnf)|((with_reducible refine Need.mk ?_ ?_);(first|omega|rfl|decide|(refine ⟨?_,?_⟩<;>simp<;>omega)|(simp;omega));conv=>whnf)|((with_reducible refine Wr.inr ?_ ?_);(first|omega|(simp;omega));conv=>whnf)|((with_reducible refine AltK.l ?_);(conv=>whnf);(first|(refine CallK.mk _ (hI) ?_));conv=>whnf)|(exfalso;first|omega|contradiction)|fail)
  all_goals first
   |(exfalso; dsimp only at *; omega)
   | exact Again.au (q + 1) (show q + 1 ≤ _ by omega) (by show l.length - (q + 1) < l.length - q;omega) (by refine ⟨?_, ?_, rfl⟩<;>(repeat' (first|exact True.intro|exact rfl|(refine ⟨?_,?_⟩)|(intro h;cases h;done)|exact hmp1|((first|refine own_congr ?_|refine int_congr ?_);simp [List.length_take];omega)|fail));done)
 ·have hJ := ev_Join (l.map Lib.itoa) (by simp; omega) (fun w hm => by
   obtain ⟨n, hn, rfl⟩ := List.mem_map.1 hm
   have := itoa_len n (hb n hn); omega)
  rw [List.take_of_length_le (by omega)]
  conv => whnf
  repeat' (first|((with_reducible refine Split.dec (fun _=>?_) (fun _=>?_))<;>conv=>whnf)|((with_reducible refine Need.mk ?_ ?_);(first|omega|rfl|decide|(refine ⟨?_,?_⟩<;>simp<;>omega)|(simp;omega));conv=>whnf)|((with_reducible refine AltK.l ?_);(conv=>whnf);(first|(refine CallK.mk _ (hJ) ?_));conv=>whnf)|(exfalso;first|omega|contradiction)|fail)
  rfl
theorem ev_split (s : List UInt8) (n : Int) (hs : s.length ≤ 90000) : Ev Tryz.prog 25 [wD s, iD n] (numsD (if ((spl 32 s).length : Int) = n then numsA (spl 32 s) else none)) := by
 have hS := ev_SplitSp s (by omega)
 have hsz := spl_size 32 s
 have hea := spl_each 32 s
 generalize spl 32 s = ws at *
 have hlw : (ws.map wD).length = ws.length := List.length_map _
 by_cases hn : (ws.length : Int) = n
 ·rw [if_pos hn]
  refine ev_of_awp tysOk mixed (fn := Tryz.f25) Tryz.func25 rfl rfl rfl ?_
  conv => whnf
  repeat' (first|((with_reducible refine Split.nez (fun _=>?_) (fun _=>?_))<;>conv=>whnf)|((with_reducible refine AltK.l ?_);(conv=>whnf);(first|(refine CallK.mk _ (hS) ?_));conv=>whnf)|(exfalso;first|omega|contradiction)|fail)
  all_goals try (exfalso; omega)
  refine LoopK.o2 (fun q : Nat × List Int => q.1 ≤ ws.length ∧ numsA ws = (numsA (ws.drop q.1)).map (q.2 ++ ·) ∧ q.2.length ≤ q.1) (fun q => [(20, .d (.int .i64 q.1)), (7, .own 200 1 q.2.length)]) (fun q => [(200, .row 3 1 (q.2.map iD) false)]) (fun q => ws.length - q.1)
   (0, []) ⟨Nat.zero_le _, by show numsA ws = (numsA ws).map ([] ++ ·);simp, Nat.le_refl _⟩ (by refine ⟨?_, ?_, rfl⟩<;>(repeat' (first|exact True.intro|exact rfl|(refine ⟨?_,?_⟩)|fail));done) ?_
  rintro ⟨i, l⟩ ⟨hi, hI, hll⟩
  have hi : i ≤ ws.length := hi
  have hll : l.length ≤ i := hll
  have hlm : (l.map iD).length = l.length := List.length_map _
  by_cases hil : i < ws.length
  ·obtain ⟨w, hx⟩ := some_of_lt (l := ws) (i := i) hil
   have hxw := hea w (List.mem_of_getElem? hx)
   have hxs : (ofL w).size ≤ 100000 := by rw [ofL_size]; omega
   have hA := ev_Atoi (ofL w) (by omega)
   have hI : numsA ws = (numsA (ws.drop i)).map (l ++ ·) := hI
   rw [drop_of hx] at hI
   have hno : numA w = none → numsA ws = none := fun h => by rw [hI, numsA_no _ h]; rfl
   by_cases hok : ∃ v, Lib.atoiAll w = .ok v
   ·obtain ⟨v, hv⟩ := hok
    rw [atoiD_ok hv] at hA
    have hvb := Lib.atoiAll_bounds hv
    have hIt := ev_Itoa v hvb
    have hnv := numA_ok hv
    by_cases he : Lib.itoa v = w
    ·subst he
     rw [if_pos rfl] at hnv
     have hI2 := numsA_app l (ws := ws.drop (i + 1)) hnv
     rw [← hI] at hI2
     have hmp1 : l.map iD ++ [iD v] = (l ++ [v]).map iD := by rw [List.map_append]; rfl
     conv => whnf
     repeat' (first|((refine PickE.map i hx (by omega) ?_);conv=>whnf)|((with_reducible refine Split.of_false ?_);conv=>whnf)|(with_reducible refine Split.neg ?_)|((with_reducible refine Split.streq (fun _=>?_) (fun _=>?_))<;>conv=>whnf)|((with_reducible refine Split.dec (fun _=>?_) (fun _=>?_))<;>conv=>whnf)|((with_reducible refine Need.mk ?_ ?_);(first|omega|rfl|decide|(refine ⟨?_,?_⟩<;>simp<;>omega)|(simp;omega));conv=>whnf)|((with_reducible refine Wr.inr ?_ ?_);(first|omega|(simp;omega));conv=>whnf)|((with_reducible refine AltK.l ?_);(conv=>whnf);(first|(refine CallK.mk _ (hA) ?_)|(refine CallK.mk _ (hIt) ?_));conv=>whnf)|(exfalso;first|omega|contradiction)|fail)
     exact Again.au (i + 1, l ++ [v]) ⟨by show i + 1 ≤ _;omega, hI2, by show (l ++ [v]).length ≤ i + 1;rw [List.length_append];simp;omega⟩ (by show ws.length - (i + 1) < ws.length - i;omega) (by refine ⟨?_, ?_, rfl⟩<;>(repeat' (first|exact True.intro|exact rfl|(refine ⟨?_,?_⟩)|(intro h;cases h;done)|exact map_snoc|(refine own_congr ?_;simp;done)|fail));done)
    ·rw [if_neg he] at hnv
     rw [hno hnv]
     have hne : itoaB v ≠ ofL w := fun e => he (ofL_inj e)
     conv => whnf
     repeat' (first|((refine PickE.map i hx (by omega) ?_);conv=>whnf)|((with_reducible refine Split.of_false ?_);conv=>whnf)|(with_reducible refine Split.neg ?_)|((with_reducible refine Split.streq (fun _=>?_) (fun _=>?_))<;>conv=>whnf)|((with_reducible refine Split.dec (fun _=>?_) (fun _=>?_))<;>conv=>whnf)|((with_reducible refine Need.mk ?_ ?_);(first|omega|rfl|decide|(refine ⟨?_,?_⟩<;>simp<;>omega)|(simp;omega));conv=>whnf)|((with_reducible refine Wr.inr ?_ ?_);(first|omega|(simp;omega));conv=>whnf)|((with_reducible refine AltK.l ?_);(conv=>whnf);(first|(refine CallK.mk _ (hA) ?_)|(refine CallK.mk _ (hIt) ?_));conv=>whnf)|(exfalso;first|omega|contradiction)|fail)
     all_goals first
      |(exfalso; exact hne (by assumption))
      | rfl
   ·obtain ⟨k, hk⟩ := atoiD_no (fun v hv => hok ⟨v, hv⟩)
    rw [hk] at hA
    rw [hno (numA_no fun v hv => hok ⟨v, hv⟩)]
    conv => whnf
    repeat' (first|((refine PickE.map i hx (by omega) ?_);conv=>whnf)|((with_reducible refine Split.of_true ?_);conv=>whnf)|((with_reducible refine Split.dec (fun _=>?_) (fun _=>?_))<;>conv=>whnf)|((with_reducible refine Need.mk ?_ ?_);(first|omega|rfl|decide|(refine ⟨?_,?_⟩<;>simp<;>omega)|(simp;omega));conv=>whnf)|((with_reducible refine AltK.l ?_);(conv=>whnf);(first|(refine CallK.mk _ (hA) ?_));conv=>whnf)|(exfalso;first|omega|contradiction)|fail)
    rfl
  ·conv => whnf
   repeat' (first|((with_reducible refine Split.dec (fun _=>?_) (fun _=>?_))<;>conv=>whnf)|((with_reducible refine Need.mk ?_ ?_);(first|omega|rfl|decide|(refine ⟨?_,?_⟩<;>simp<;>omega)|(simp;omega));conv=>whnf)|(exfalso;first|omega|contradiction)|fail)
   have hI : numsA ws = (numsA (ws.drop i)).map (l ++ ·) := hI
   rw [hI, List.drop_eq_nil_of_le (by omega)]
   simp [numsA, numsD, retOf]
 ·rw [if_neg hn]
  refine ev_of_awp tysOk mixed (fn := Tryz.f25) Tryz.func25 rfl rfl rfl ?_
  conv => whnf
  repeat' (first|((with_reducible refine Split.nez (fun _=>?_) (fun _=>?_))<;>conv=>whnf)|((with_reducible refine AltK.l ?_);(conv=>whnf);(first|(refine CallK.mk _ (hS) ?_));conv=>whnf)|(exfalso;first|omega|contradiction)|fail)
  all_goals first
   |(exfalso; omega)
   | rfl
end Go.Proofs.Tryz
end
