/- Each operation, twelfth part: a map that is gone through. -/
import Derived.Test.YticnipadahihhaaVmO
import Derived.Maps.RangeRun
namespace Go.Vm
open Go.RowKit (Below)
open Go.ChangeMaps (setBlock)
section
variable {P : Program} {S : Tys} {oc : Option Orc}
variable {w0 : Ent} {A0 : Sta} {N : Nat} {L : Lay} {A : Sta} {T : Nat → AV} {B : Nat → Option Bx} {a : Act} {w : World}

theorem left_of {E : Array MapEntry} {seen : List Nat} {n : Nat} (hE : ∀ (j : Nat) e, E[j]? = some e → e.born = j) (hn : E.size = n) :
    (leftOf E seen.reverse.toArray).toList = (leftN n seen).map fun j => (E[j]?).getD default := by
  have h1 : E.toList = (List.range n).map fun j => (E[j]?).getD default := by
    apply List.ext_getElem?
    intro j
    rw [List.getElem?_map]
    rcases Nat.lt_or_ge j n with h | h
    · rw [List.getElem?_range h, Array.getElem?_toList, Array.getElem?_eq_getElem (by omega)]; simp [show j < E.size by omega]
    · rw [List.getElem?_eq_none (by simp; omega), List.getElem?_eq_none (by simp; omega)]; rfl
  unfold leftOf leftN
  rw [Array.toList_filter, h1, List.filter_map]
  congr 1
  refine List.filter_congr fun j hj => ?_
  have hj := List.mem_range.1 hj
  have := hE j E[j] (Array.getElem?_eq_getElem (by omega))
  simp [show j < E.size by omega, this]

theorem next_run {r m n : Nat} {E : Array MapEntry} {seen : List Nat} {ty : TypeId} (hr : w.heap[r]? = some (.mapIter (some m) n seen.reverse.toArray n)) (hb : w.heap[m]? = some (.map E n))
    (hE : ∀ (j : Nat) e, E[j]? = some e → e.born = j) (hn : E.size = n) :
    (chW w n seen = none ∧ (Instr.next (.pointer (some ⟨r, 0, none⟩)) false ty).run P w = .ok (.tuple #[.bool false]) w) ∨
    ∃ j e w1, chW w n seen = some j ∧ E[j]? = some e ∧ (w1 = w ∨ w1 = w.drew) ∧
      (Instr.next (.pointer (some ⟨r, 0, none⟩)) false ty).run P w = .ok (.tuple #[.bool true, e.key, e.val]) (setBlock w1 r (.mapIter (some m) n (j :: seen).reverse.toArray n)) := by
  have hold : ∀ x ∈ E.toList, x.born < n := by
    intro x hx
    obtain ⟨j, hj⟩ := List.getElem?_of_mem hx
    have h1 := hE j x (by simpa using hj)
    have h2 := (List.getElem?_eq_some_iff.1 hj).1
    simp only [Array.length_toList] at h2
    omega
  have hL := left_of (seen := seen) hE hn
  simp only [Instr.next, getObj, Sem.run_bind, Sem.run, hr, hb, Result.andThen, next_test_false seen.reverse.toArray E n n hold (Nat.le_refl _), Bool.false_eq_true, if_false]
  have hmem : ∀ x ∈ (leftOf E seen.reverse.toArray).toList, x.born < n := by
    intro x hx
    unfold leftOf at hx
    exact hold x (by simp at hx ⊢; exact hx.1)
  change (_ ∧ _ = _) ∨ _
  unfold leftOf at hL hmem
  generalize Array.filter (fun e => !seen.reverse.toArray.contains e.born) E = Z at hmem hL ⊢
  have e1 : Z.filter (fun x => decide (x.born < n)) = Z := Array.filter_eq_self.2 (fun x hx => by simpa using hmem x (by simpa using hx))
  have e2 : Z.filter (fun x => decide (x.born ≥ n)) = #[] := by
    rw [Array.filter_eq_empty_iff]
    intro x hx
    have := hmem x (by simpa using hx)
    simp
    omega
  simp only [e1, e2, Array.append_empty]
  have hs : Z.size = (leftN n seen).length := by rw [← Array.length_toList, hL, List.length_map]
  by_cases h0 : Z.size = 0
  · left
    have : Z = #[] := Array.eq_empty_of_size_eq_zero h0
    subst this
    have hl : leftN n seen = [] := List.eq_nil_of_length_eq_zero (by rw [← hs]; rfl)
    refine ⟨by simp only [chW, hl, List.getElem?_nil], ?_⟩
    simp [choose, Sem.run, Question.forced]
  · right
    have hne : Z.isEmpty = false := by simp [Array.isEmpty, h0]
    simp only [hne, Bool.false_eq_true, if_false, Array.empty_append, Array.size_map]
    have hc : candN n seen = Z.size := by
      rw [hs]
      unfold candN
      split
      · rename_i h; rw [hs, h] at h0; exact absurd rfl h0
      · rfl
    have hch : ∃ (k : Nat) (w1 : World), k < Z.size ∧ (w1 = w ∨ w1 = w.drew) ∧ (choose (Question.mapNext Z.size)).run P w = .ok k w1 ∧ chW w n seen = (leftN n seen)[k]? := by
      unfold chW
      rw [hc]
      by_cases hf : Z.size ≤ 1
      · exact ⟨0, w, by omega, Or.inl rfl, by simp [choose, Sem.run, Question.forced, hf], by simp [Question.forced, hf]⟩
      · exact ⟨_, w.drew, Nat.mod_lt (w.tape w.drawn (.mapNext Z.size)) (by omega), Or.inr rfl, by
          simp only [choose, Sem.run, Question.forced, decide_eq_true_eq, hf, if_false, Question.cut]
          rfl, by simp [Question.forced, hf, Question.cut]⟩
    obtain ⟨k, w1, hk, hal, hrun, hcw⟩ := hch
    have hk' : k < (leftN n seen).length := by omega
    have hj : (leftN n seen)[k]? = some (leftN n seen)[k] := List.getElem?_eq_getElem hk'
    rw [hj] at hcw
    obtain ⟨hj1, hj2⟩ := chW_some hcw
    generalize (leftN n seen)[k] = j at *
    have hEj : E[j]? = some E[j] := Array.getElem?_eq_getElem (by omega)
    have hZ : Z[k]? = some E[j] := by
      rw [← Array.getElem?_toList, hL, List.getElem?_map, hj, Option.map_some, hEj]; rfl
    refine ⟨j, E[j], w1, hcw, hEj, hal, ?_⟩
    have hr1 : w1.heap[r]? = some (.mapIter (some m) n seen.reverse.toArray n) := by rcases hal with rfl | rfl <;> exact hr
    have hp : (j :: seen).reverse.toArray = seen.reverse.toArray.push E[j].born := by rw [hE j _ hEj]; simp
    simp only [hrun, Array.getElem?_map, hZ, Option.map_some, Sem.run_bind, run_setObj_at hr1, Result.andThen, hp]
    rfl

theorem s_range (hS : TysOk P S) {dst type pos after guard} (t : TypeId) (x : Operand) : Sound P S ⟨dst, .range t x, type, pos, after, guard⟩ := by
  refine ⟨?_⟩
  intro w0 A0 N L A T B a w v ups T1 B1 T2 K Q oc dr hoc hI ho hu hp hK
  have hx := ev_rv hI x
  simp only [eff] at ho
  split at ho
  · rename_i s q b hm hxb
    obtain ⟨kt, et, kd⟩ := q
    rw [hxb] at hx
    have hx := rv_mp hx
    obtain ⟨m1, m2⟩ := mapTy_spec hS hm
    split at ho
    · rename_i kt' et' kd' es hbx
      cases ho
      obtain ⟨rfl, ⟨hnone, hlt⟩, rfl⟩ := upsNew rfl hu
      obtain ⟨E, c, e1, e2, e3, e4, e5, e6⟩ := hI.bxs b _ hbx
      have hsb : b ≠ s := by rintro rfl; rw [hnone] at hbx; cases hbx
      have hI' := hI.adopt (w' := w.alloc (.mapIter (some (L.ι b)) c #[] c)) (b := s) (L' := L.at s w.heap.size undef) (x := .iter (some b) es.length []) (fun g => g = w.heap.size) hnone hlt rfl .rfl' rfl (by simp) (fun k hk _ => heap_old w _ hk)
        (fun g o hg ho => by subst hg; exact absurd (hI.Aok _ o ho) (by omega)) (fun g hg => by subst hg; exact ⟨.inl hI.below.size, by simp⟩)
        (fun g b' x' hg hx' ho => by subst hg; have := (hI.lo b' x' _ hx' ho).2; omega) (fun b' hb' => Lay.at_eq hb') (fun _ _ => rfl)
        ⟨⟨some (L.ι b), by rw [Lay.at_ι, ← e6]; exact heap_new w _, fun b' hb' => by cases hb'; rw [(Lay.at_eq hsb).ι]⟩, fun o ho => by rw [Lay.at_ι] at ho; exact absurd (hI.Aok _ o ho) (by omega)⟩
        (fun g hg => by rw [show g = _ from hg]; exact Lay.at_ι) (fun b' hb' => by
          rw [Nat.eq_of_beq_eq_true (show Nat.beq b' b = true from hb'), upd_ne _ _ hsb, hbx]; simp)
      refine zarr (u := .pointer (some ⟨w.heap.size, 0, none⟩)) (w' := w.alloc (.mapIter (some (L.ι b)) c #[] c)) (by simp [execOp, Instr.range, run_underlying m1, hx, MapKept.run_getObj_map e1]) (hK _ _ _ _ (fin hI' ?_ hp))
      have := RV.ptr (L := L.at s w.heap.size undef) (w := w.alloc (.mapIter (some (L.ι b)) c #[] c)) (A := A) s 0
      rwa [Lay.at_ι] at this
    · cases ho
  · cases ho

theorem s_next {dst type pos after guard} (x : Operand) (str : Bool) : Sound P S ⟨dst, .next x str, type, pos, after, guard⟩ := by
  refine ⟨?_⟩
  intro w0 A0 N L A T B a w v ups T1 B1 T2 K Q oc dr hoc hI ho hu hp hK
  have hx := ev_rv hI x
  simp only [eff] at ho
  split at ho
  · rename_i b hxb
    rw [hxb] at hx
    have hx := rv_ptr hx
    split at ho
    · rename_i m n seen hbx
      split at ho
      · rename_i kt et kd es hbm
        cases ho with
        | need hn ho =>
          cases ho with
          | nxt hw ho =>
            rw [hoc] at hw
            cases hw
            obtain ⟨⟨g, i1, i2⟩, i3⟩ := hI.bxs b _ hbx
            have hg := i2 m rfl
            subst hg
            obtain ⟨E, c, e1, e2, e3, e4, e5, e6⟩ := hI.bxs m _ hbm
            rw [e6, hn] at e1
            rw [hn] at ho
            rcases next_run (P := P) (ty := type) i1 e1 e5 (by rw [e2, hn]) with ⟨c1, hrun⟩ | ⟨j, e, w1, c1, c2, hal, hrun⟩
            · rw [c1] at ho
              cases ho
              refine outV (oc := none) (r := .ok (.d (.tup [.bool false])) []) hI (.ok _ _) hu hp hK ⟨rfl, .tuple #[.bool false], ?_, .d (.tup rfl fun j c u hc hu => ?_)⟩
              · simp [execOp, hx, hrun]
              · match j with
                | 0 => simp at hc hu; subst hc; subst hu; exact .bool _
                | j + 1 => simp at hc
            · rw [c1] at ho
              have hj := (chW_some c1).1
              have hpj : es[j]? = some es[j] := List.getElem?_eq_getElem (by omega)
              simp only [hpj] at ho
              cases ho
              obtain ⟨rfl, rfl, _⟩ := upsOne hu (by rw [hbx]; simp)
              obtain ⟨r1, r2, r3⟩ := e3 j _ _ hpj c2
              have hlt : L.ι b < w.heap.size := (hI.lo b _ _ hbx rfl).2
              have hw1 : w1.heap = w.heap ∧ w1.os = w.os ∧ TapeOn w w1 ∧ w1.output = w.output := by rcases hal with rfl | rfl; exact ⟨rfl, rfl, .rfl', rfl⟩; exact ⟨rfl, rfl, ⟨rfl, Nat.le_succ _⟩, rfl⟩
              have s1 : (setBlock w1 (L.ι b) (.mapIter (some (L.ι m)) n (j :: seen).reverse.toArray n)).heap[L.ι b]? = some (.mapIter (some (L.ι m)) n (j :: seen).reverse.toArray n) := by
                simp [setBlock, hw1.1, hlt]
              have s2 : ∀ k, k ≠ L.ι b → (setBlock w1 (L.ι b) (.mapIter (some (L.ι m)) n (j :: seen).reverse.toArray n)).heap[k]? = w.heap[k]? := by
                intro k hk
                simp only [setBlock, hw1.1]
                exact Array.getElem?_setIfInBounds_ne (fun h => hk h.symm)
              have hA : ∀ g q, A g q → (setBlock w1 (L.ι b) (.mapIter (some (L.ι m)) n (j :: seen).reverse.toArray n)).cell? ⟨g, q, none⟩ = w.cell? ⟨g, q, none⟩ := by
                intro g q hg
                refine World.cell?_of_block (w := w) (s2 g ?_)
                rintro rfl
                exact i3 q hg
              have hI' := hI.store (w' := setBlock w1 (L.ι b) (.mapIter (some (L.ι m)) n (j :: seen).reverse.toArray n)) (L' := L) (x' := .iter (some m) n (j :: seen)) hbx (fun g q hg => by rw [show g = L.ι b from hg]; exact i3 q)
                hw1.2.1 hw1.2.2.1 hw1.2.2.2 (by simp [setBlock, hw1.1]) (fun g hg => s2 g hg) (fun _ => .rfl') (fun _ _ => rfl)
                ⟨⟨_, s1, fun b' hb' => by cases hb'; rfl⟩, i3⟩ (fun _ h => h) (fun b' hb' => by
                  rw [Nat.eq_of_beq_eq_true (show Nat.beq b' m = true from hb'), hbm]; simp)
              refine zarr (u := .tuple #[.bool true, e.key, e.val]) (w' := setBlock w1 (L.ι b) (.mapIter (some (L.ι m)) n (j :: seen).reverse.toArray n)) (by simp only [execOp, hx]; simp [hrun]) (hK _ _ _ _ (fin hI' (.d (.tup rfl fun j c u hc hu => ?_)) hp))
              match j with
              | 0 => simp at hc hu; subst hc; subst hu; exact .bool _
              | 1 => simp at hc hu; subst hc; subst hu; exact r1.frame (fun _ _ h => h) hA
              | 2 => simp at hc hu; subst hc; subst hu; exact r2.frame (fun _ _ h => h) hA
              | j + 3 => simp at hc
      · cases ho
    · cases ho
  · cases ho

theorem s_entry {dst type pos after guard} (x : Operand) : Sound P S ⟨dst, .entry x, type, pos, after, guard⟩ := by
  refine ⟨?_⟩
  intro w0 A0 N L A T B a w v ups T1 B1 T2 K Q oc dr hoc hI ho hu hp hK
  have hx := ev_rv hI x
  simp only [eff] at ho
  refine outV hI ho hu hp hK ?_
  split at ho
  · rename_i b hxb
    rw [hxb] at hx
    have hx := rv_ptr hx
    split at ho
    · rename_i m n j rest hbx
      split at ho
      · rename_i kt et kd es hbm
        cases ho with
        | need hn ho =>
          cases ho with
          | pick he ho =>
            cases ho
            obtain ⟨⟨g, i1, i2⟩, i3⟩ := hI.bxs b _ hbx
            have hg := i2 m rfl
            subst hg
            obtain ⟨E, c, e1, e2, e3, e4, e5, e6⟩ := hI.bxs m _ hbm
            rw [e6, hn] at e1
            rw [List.getElem?_map, Option.map_eq_some_iff] at he
            obtain ⟨p, hp', rfl⟩ := he
            have hj : j < E.size := by rw [e2]; exact lt_of_get hp'
            have hEj : E[j]? = some E[j] := Array.getElem?_eq_getElem hj
            obtain ⟨r1, r2, r3⟩ := e3 j _ _ hp' hEj
            have hb := e5 j _ hEj
            refine ⟨rfl, .tuple #[E[j].key, E[j].val], ?_, .d (.tup rfl fun j c u hc hu => ?_)⟩
            · have hpush : (j :: rest).reverse.toArray = rest.reverse.toArray.push E[j].born := by rw [hb]; simp
              rw [hpush] at i1
              have hnd : (E.toList.map (·.born)).Nodup := by
                have : E.toList.map (·.born) = List.range E.size := by
                  apply List.ext_getElem?
                  intro k
                  rw [List.getElem?_map, Array.getElem?_toList]
                  rcases Nat.lt_or_ge k E.size with h | h
                  · rw [List.getElem?_range h, Array.getElem?_eq_getElem h, Option.map_some, e5 k _ (Array.getElem?_eq_getElem h)]
                  · rw [List.getElem?_eq_none (by simpa using h), Array.getElem?_eq_none h]; rfl
                rw [this]; exact List.nodup_range
              have := run_entry_at (P := P) w _ _ n _ E n E[j] i1 e1 (by simp) hnd
              simp [execOp, hx, this]
            · match j with
              | 0 => simp at hc hu; subst hc; subst hu; exact r1
              | 1 => simp at hc hu; subst hc; subst hu; exact r2
              | j + 2 => simp at hc
      · cases ho
    · cases ho
  · cases ho
end
end Go.Vm
