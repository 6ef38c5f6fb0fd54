/- Each operation, seventh part: append at the operation; make; closures; calls. -/
import Derived.Test.YticnipadahihhaaVmJ
import Derived.ArgAppend
namespace Go.Vm
open Go.RowKit (Below)
section
variable {P : Program} {S : Tys}
variable {w0 : Ent} {A0 : Sta} {N : Nat} {L : Lay} {A : Sta} {T : Nat → AV} {B : Nat → Option Bx} {a : Act} {w : World}

/-- After the row that was appended to has gone: the heir comes. -/
theorem Inv.heirs (h : Inv w0 A0 N L A T B a w) {w' : World} {t g et sz : Nat} {es new : List D} {xs news : List Value} {fz : Bool} {v' : Value} (hn : B t = none) (hlt : pinned t = false)
    (hxl : xs.length = es.length * sz) (hown : w'.ownsRow w0.B0 et sz v' (es.length + new.length) (xs ++ news))
    (h2 : ∀ (i : Nat) e, es[i]? = some e → e.cells.length = sz ∧ e.flat = true) (h2' : ∀ (i : Nat) e, new[i]? = some e → e.cells.length = sz ∧ e.flat = true)
    (h3 : ∀ (i : Nat) e (j : Nat) c v, es[i]? = some e → e.cells[j]? = some c → xs[i * sz + j]? = some v → Rep w A c v)
    (h3' : ∀ (i : Nat) e (j : Nat) c v, new[i]? = some e → e.cells[j]? = some c → news[i * sz + j]? = some v → Rep w A c v)
    (hb : v'.ownBlock = some g) (hos : w'.os = w.os) (htape : TapeOn w w') (hout : w'.output = w.output) (hsize : w.heap.size ≤ w'.heap.size)
    (hblock : ∀ k, k < w.heap.size → k ≠ g → w'.heap[k]? = w.heap[k]?) (hcell : ∀ o, A g o → w'.cell? ⟨g, o, none⟩ = w.cell? ⟨g, o, none⟩)
    (hA : ∀ o, A g o → fz = true ∧ o < es.length * sz) (hfree : ∀ b' x', B b' = some x' → ¬ own L b' x' g) (hog : w0.own g) :
    ∃ L', L'.hd t = v' ∧ Inv w0 A0 N L' A T (upd B t (some (.row et sz (es ++ new) fz))) a w' := by
  have hw : ∀ k o, A k o → w'.cell? ⟨k, o, none⟩ = w.cell? ⟨k, o, none⟩ := by
    intro k o hk
    by_cases e : k = g
    · subst e; exact hcell o hk
    · exact World.cell?_of_block (w := w) (hblock k (h.Aok k o hk) e)
  refine ⟨L.at t g v', Lay.at_hd, h.adopt (L' := L.at t g v') (fun k => k = g) hn hlt hos htape hout hsize (fun k hk hg => hblock k hk hg) (fun k o hg => by subst hg; exact hcell o) ?_ (fun k b' x' hg hx' => by subst hg; exact hfree b' x' hx')
    (fun b' hb' => Lay.at_eq hb') (fun _ _ => rfl) ?_ (fun k hk => ?_) (fun b' hb' => (by cases hb'))⟩
  · rintro k rfl
    exact ⟨hog, (ownsRow_lt hown hb).2⟩
  · exact heir Lay.at_ι Lay.at_hd hxl hown h2 h2' (fun i e j c v he hc hv => (h3 i e j c v he hc hv).frame (fun _ _ h => h) hw) (fun i e j c v he hc hv => (h3' i e j c v he hc hv).frame (fun _ _ h => h) hw) hb hA
  · have hk' : ((L.at t g v').hd t).ownBlock = some k := hk
    rw [Lay.at_hd, hb] at hk'
    exact (Option.some.inj hk').symm
/-- The same where there is still no block. -/
theorem Inv.heirs0 (h : Inv w0 A0 N L A T B a w) {t et sz : Nat} {fz : Bool} (hn : B t = none) (hlt : pinned t = false) : ∃ L', L'.hd t = .slice none 0 0 ∧ Inv w0 A0 N L' A T (upd B t (some (.row et sz [] fz))) a w := by
  refine ⟨L.at t w.heap.size (.slice none 0 0), Lay.at_hd, h.adopt (L' := L.at t w.heap.size (.slice none 0 0)) (fun _ => False) hn hlt rfl .rfl' rfl (Nat.le_refl _) (fun _ _ _ => rfl) (fun _ _ h => h.elim) (fun _ h => h.elim) (fun _ _ _ h => h.elim)
    (fun b' hb' => Lay.at_eq hb') (fun _ _ => rfl) ?_ (fun k hk => ?_) (fun b' hb' => (by cases hb'))⟩
  · refine ⟨[], ⟨by simp, .inl ⟨Lay.at_hd, rfl⟩⟩, by simp, by simp, fun g hg => ?_, fun hne => absurd Lay.at_hd hne⟩
    rw [Lay.at_hd] at hg
    simp [Value.ownBlock] at hg
  · have hk' : ((L.at t w.heap.size (.slice none 0 0)).hd t).ownBlock = some k := hk
    rw [Lay.at_hd] at hk'
    simp [Value.ownBlock] at hk'

/-- A matrix out of inner rows that nobody claims. -/
theorem Inv.matHeir (h : Inv w0 A0 N L A T B a w) {w' : World} {t g et ie : Nat} {rows : List (Option (List D))} {xs : List Value} {v' : Value} (sb : Nat → Value) (hn : B t = none) (hlt : pinned t = false)
    (hown : w'.ownsRow w0.B0 et 1 v' rows.length xs)
    (hR : ∀ (i : Nat) es, rows[i]? = some (some es) → xs[i]? = some (sb i) ∧ inRow w0.B0 w A ie (sb i) es)
    (hD : ∀ (i j : Nat) es es' k, rows[i]? = some (some es) → rows[j]? = some (some es') → (sb i).ownBlock = some k → (sb j).ownBlock = some k → i = j)
    (hF : ∀ (i : Nat) es k, rows[i]? = some (some es) → (sb i).ownBlock = some k → k ≠ g ∧ (w0.own k ∧ k < w.heap.size) ∧ (∀ b' x', B b' = some x' → ¬ own L b' x' k) ∧ ∀ o, ¬ A k o)
    (hb : ∀ k, v'.ownBlock = some k → k = g ∧ w0.own g) (hos : w'.os = w.os) (htape : TapeOn w w') (hout : w'.output = w.output) (hsize : w.heap.size ≤ w'.heap.size)
    (hblock : ∀ k, k < w.heap.size → (k ≠ g ∨ v'.ownBlock = none) → w'.heap[k]? = w.heap[k]?) (hA : v'.ownBlock = some g → ∀ o, ¬ A g o) (hfree : v'.ownBlock = some g → ∀ b' x', B b' = some x' → ¬ own L b' x' g) :
    ∃ L', L'.hd t = v' ∧ Inv w0 A0 N L' A T (upd B t (some (.mat et ie 0 rows))) a w' := by
  let L' : Lay := { ι := upd L.ι t g, hd := upd L.hd t v', sub := fun b' k i => if b' = t then sb i else L.sub b' k i, top := upd L.top t 0 }
  have hhd : L'.hd t = v' := upd_same _ _ _
  have hsub : ∀ k i, L'.sub t k i = sb i := fun k i => if_pos rfl
  have hkeep : ∀ k, k < w.heap.size → ¬ v'.ownBlock = some k → w'.heap[k]? = w.heap[k]? := by
    intro k hk hv
    refine hblock k hk ?_
    cases hob : v'.ownBlock with
    | none => exact .inr rfl
    | some k' =>
      left
      rintro rfl
      exact hv (by rw [hob, (hb k' hob).1])
  have hw : ∀ k o, A k o → w'.cell? ⟨k, o, none⟩ = w.cell? ⟨k, o, none⟩ := by
    intro k o hk
    refine World.cell?_of_block (w := w) (hkeep k (h.Aok k o hk) fun hv => ?_)
    have := (hb k hv).1
    subst this
    exact hA hv o hk
  have hclaim : ∀ k, own L' t (.mat et ie 0 rows) k → v'.ownBlock = some k ∨ ∃ (i : Nat) (es : List D), rows[i]? = some (some es) ∧ (sb i).ownBlock = some k := by
    rintro k (hk | ⟨i, es, hi, hk⟩)
    · rw [hhd] at hk; exact .inl hk
    · rw [hsub] at hk; exact .inr ⟨i, es, hi, hk⟩
  refine ⟨L', hhd, h.adopt (L' := L') (fun k => v'.ownBlock = some k ∨ ∃ (i : Nat) (es : List D), rows[i]? = some (some es) ∧ (sb i).ownBlock = some k) hn hlt hos htape hout hsize (fun k hk hg => hkeep k hk fun hv => hg (.inl hv))
    (fun k o _ => hw k o) (fun k hk => ?_) (fun k b' x' hk hx' => ?_) (fun b' hb' => ?_) (fun b' hb' => upd_ne _ _ hb') ?_ hclaim (fun b' hb' => (by cases hb'))⟩
  · rcases hk with hk | ⟨i, es, hi, hk⟩
    · obtain ⟨rfl, h2⟩ := hb k hk
      exact ⟨h2, (ownsRow_lt hown hk).2⟩
    · have := (hF i es k hi hk).2.1
      exact ⟨this.1, by omega⟩
  · rcases hk with hk | ⟨i, es, hi, hk⟩
    · obtain ⟨rfl, h2⟩ := hb k hk
      exact hfree hk b' x' hx'
    · exact (hF i es k hi hk).2.2.1 b' x' hx'
  · refine ⟨upd_ne _ _ hb', upd_ne _ _ hb', Nat.le_of_eq (upd_ne _ _ hb').symm, fun v hv i => if_neg hb'⟩
  · refine ⟨xs, by rw [hhd]; exact hown, fun k hk => ?_, (upd_same _ _ _).symm, fun i es hi => ?_, fun i j es es' k h1 h2 h3 h4 => ?_, fun i es k hi hk => ?_, fun k hk o => ?_⟩
    · rw [hhd] at hk
      rw [(hb k hk).1]
      exact (upd_same _ _ _).symm
    · rw [hsub]
      obtain ⟨k1, k2⟩ := hR i es hi
      exact ⟨k1, inRow_keep k2 (fun _ _ h => h) hw fun k hk => hkeep k (hF i es k hi hk).2.1.2 fun hv => (hF i es k hi hk).1 (hb k hv).1⟩
    · rw [hsub] at h3 h4
      exact hD i j es es' k h1 h2 h3 h4
    · rw [hsub] at hk
      rw [hhd]
      intro hv
      exact (hF i es k hi hk).1 (hb k hv).1
    · rcases hclaim k hk with hk1 | ⟨i, es, hi, hk1⟩
      · have := (hb k hk1).1
        subst this
        exact hA hk1 o
      · exact (hF i es k hi hk1).2.2.2 o

theorem allSome_spec {α : Type} : ∀ {l : List (Option α)} {r : List α}, allSome l = some r → l = r.map some
  | [], r, h => by simp only [allSome] at h; cases h; rfl
  | x :: xs, r, h => by
    simp only [allSome] at h
    split at h
    · rename_i hy
      cases h
      rw [allSome_spec hy]; rfl
    · cases h
theorem srcM_spec {v : AV} {b et ie : Nat} {rows : List (Option (List D))} (h : srcM B v = some (b, et, ie, rows)) : ∃ sz n vv, v = .own b sz n ∧ B b = some (.mat et ie vv rows) := by
  unfold srcM at h
  split at h
  · split at h
    · rename_i hb
      simp only [Option.some.injEq, Prod.mk.injEq] at h
      obtain ⟨rfl, rfl, rfl, rfl⟩ := h
      exact ⟨_, _, _, rfl, hb⟩
    · cases h
  · cases h

/-- A source that is a matrix: its headers, its inner rows; where they lie when its name has gone. -/
structure MatR (w0 : Ent) (L : Lay) (w : World) (A : Sta) (B : Nat → Option Bx) (et ie : Nat) (rows : List (Option (List D))) (u : Value) (sb : Nat → Value) (xs : List Value) : Prop where
  row : w.ownsRow w0.B0 et 1 u rows.length xs
  inn : ∀ (i : Nat) es, rows[i]? = some (some es) → xs[i]? = some (sb i) ∧ inRow w0.B0 w A ie (sb i) es
  dis : ∀ (i j : Nat) es es' k, rows[i]? = some (some es) → rows[j]? = some (some es') → (sb i).ownBlock = some k → (sb j).ownBlock = some k → i = j
  out : ∀ (i : Nat) es k, rows[i]? = some (some es) → (sb i).ownBlock = some k → u.ownBlock ≠ some k
  fI : ∀ (i : Nat) es k, rows[i]? = some (some es) → (sb i).ownBlock = some k → (w0.own k ∧ k < w.heap.size) ∧ (∀ b' x', B b' = some x' → ¬ own L b' x' k) ∧ ∀ o, ¬ A k o
  fO : ∀ k, u.ownBlock = some k → (w0.own k ∧ k < w.heap.size) ∧ (∀ b' x', B b' = some x' → ¬ own L b' x' k) ∧ ∀ o, ¬ A k o
theorem matR (hI : Inv w0 A0 N L A T B a w) {b et ie v : Nat} {rows : List (Option (List D))} (hbx : B b = some (.mat et ie v rows)) {B' : Nat → Option Bx} (hB' : ∀ b' x' g, B' b' = some x' → own L b' x' g → b' ≠ b ∧ ∃ x, B b' = some x ∧ own L b' x g) :
    ∃ xs, MatR w0 L w A B' et ie rows (L.hd b) (L.sub b v) xs := by
  obtain ⟨xs, g1, g2, g3, g4, g5, g6, g7⟩ := hI.bxs b _ hbx
  have fr : ∀ k, own L b (.mat et ie v rows) k → (w0.own k ∧ k < w.heap.size) ∧ (∀ b' x', B' b' = some x' → ¬ own L b' x' k) ∧ ∀ o, ¬ A k o := by
    refine fun k hk => ⟨hI.lo b _ k hbx hk, fun b' x' hx' ho => ?_, g7 k hk⟩
    obtain ⟨h1, y, h2, h3⟩ := hB' b' x' k hx' ho
    exact h1 (hI.inj b' b y _ k h2 hbx h3 hk)
  exact ⟨xs, g1, g4, g5, fun i es k hi hk => g6 i es k hi hk, fun i es k hi hk => fr k (.inr ⟨i, es, hi, hk⟩), fun k hk => fr k (.inl hk)⟩

/-- Headers appended to headers. -/
theorem matAppend (hI : Inv w0 A0 N L A T B a w) {ty type e ie t : Nat} {te : TI} (htu : P.underlying ty = some (.slice e)) (hte : TyOk P e te) (hs1 : te.size = 1) {old : List (Option (List D))} {ns : List (List D)} {us ux : Value} {so sn : Nat → Value} {xs ys : List Value}
    (ho : MatR w0 L w A B e ie old us so xs) (hn : MatR w0 L w A B e ie (ns.map some) ux sn ys)
    (hon : ∀ (i j : Nat) es es' k, old[i]? = some (some es) → (ns.map some)[j]? = some (some es') → (so i).ownBlock = some k → (sn j).ownBlock ≠ some k)
    (hoh : ∀ (i : Nat) es k, (ns.map some)[i]? = some (some es) → (sn i).ownBlock = some k → us.ownBlock ≠ some k)
    (hbound : (old.length + ns.length) * te.bytes ≤ 140737488355328 ∧ old.length + ns.length ≤ 140737488355328 ∧ 0 < ns.length) (hBt : B t = none) (hlt : pinned t = false) :
    ∃ v' w' L', (Builtin.append_ #[ty, ty] type #[us, ux]).run P w = .ok v' w' ∧ L'.hd t = v' ∧ v'.oneCell' = true ∧ Inv w0 A0 N L' A T (upd B t (some (.mat e ie 0 (old ++ ns.map some)))) a w' := by
  obtain ⟨i, z, hi, hi1, hi2, hz, hzm⟩ := hte.info
  have hzs : z.cells.size = 1 := by
    have hl := (zmatchL_rv (L := L) (w := w) (A := A) hzm).1
    rw [hte.zlen, hs1] at hl
    simpa using hl.symm
  have hlenN : (ns.map some).length = ns.length := by simp
  have hny : (ns.map some).length ≠ 0 := by rw [hlenN]; omega
  cases hob : ux.ownBlock with
  | none => exact absurd (ownBlock_none hn.row hob).2 hny
  | some gx =>
    obtain ⟨cap, hux, hcap, hyl, hyc⟩ := ownsRow_cells hn.row hob
    have hget : ∀ (i : Nat) es, ns[i]? = some es → (ns.map some)[i]? = some (some es) := fun i es h => by simp [h]
    have one : ∀ u ∈ ys, u.oneCell' = true := by
      intro u hu
      obtain ⟨j, hj⟩ := List.getElem?_of_mem hu
      have hlt := lt_of_get hj
      have hjn : j < ns.length := by omega
      obtain ⟨h1, h2⟩ := hn.inn j _ (hget j _ (List.getElem?_eq_getElem hjn))
      rw [hj] at h1
      cases h1
      exact h2.1
    obtain ⟨v', w', k1, k2, k3⟩ := append_two (P := P) (w := w) w0.B0 ty type e i z 1 te.bytes htu hi hz (hi1.trans hs1) hi2 hzs us old.length xs ho.row ⟨gx, 0, none⟩ ns.length cap ys (by rw [hyl, hlenN]) (fun j u hj => by
      rw [Addr.add_mid, Nat.zero_add]; exact hyc j u hj) one hbound.2.1 hbound.1 hI.below.b0 hbound.2.2
    rw [hlenN] at hux
    have hrun : (Builtin.append_ #[ty, ty] type #[us, ux]).run P w = .ok v' w' := by rw [hux]; exact k1
    have hone : v'.oneCell' = true := by
      obtain ⟨_, ⟨rfl, _⟩ | ⟨g, cap, cur, rfl, _⟩⟩ := k2 <;> rfl
    have hxl : xs.length = old.length := by rw [ho.row.1, Nat.mul_one]
    let sb : Nat → Value := fun i => if i < old.length then so i else sn (i - old.length)
    have split : ∀ (i : Nat) es, (old ++ ns.map some)[i]? = some (some es) → (i < old.length ∧ old[i]? = some (some es) ∧ sb i = so i) ∨ (old.length ≤ i ∧ (ns.map some)[i - old.length]? = some (some es) ∧ sb i = sn (i - old.length)) := by
      intro i es h
      rcases Nat.lt_or_ge i old.length with hlt | hge
      · rw [List.getElem?_append_left hlt] at h
        exact .inl ⟨hlt, h, if_pos hlt⟩
      · rw [List.getElem?_append_right hge] at h
        exact .inr ⟨hge, h, if_neg (by omega)⟩
    have R : ∀ (i : Nat) es, (old ++ ns.map some)[i]? = some (some es) → (xs ++ ys)[i]? = some (sb i) ∧ inRow w0.B0 w A ie (sb i) es := by
      intro i es h
      rcases split i es h with ⟨h1, h2, h3⟩ | ⟨h1, h2, h3⟩
      · rw [h3, List.getElem?_append_left (by omega)]; exact ho.inn i es h2
      · rw [h3, List.getElem?_append_right (by omega), hxl]; exact hn.inn _ es h2
    have Dj : ∀ (i j : Nat) es es' k, (old ++ ns.map some)[i]? = some (some es) → (old ++ ns.map some)[j]? = some (some es') → (sb i).ownBlock = some k → (sb j).ownBlock = some k → i = j := by
      intro i j es es' k h1 h2 h3 h4
      rcases split i es h1 with ⟨p1, p2, p3⟩ | ⟨p1, p2, p3⟩
      · rcases split j es' h2 with ⟨q1, q2, q3⟩ | ⟨q1, q2, q3⟩
        · exact ho.dis i j es es' k p2 q2 (p3 ▸ h3) (q3 ▸ h4)
        · exact absurd (q3 ▸ h4) (hon i _ es es' k p2 q2 (p3 ▸ h3))
      · rcases split j es' h2 with ⟨q1, q2, q3⟩ | ⟨q1, q2, q3⟩
        · exact absurd (p3 ▸ h3) (hon j _ es' es k q2 p2 (q3 ▸ h4))
        · have := hn.dis _ _ es es' k p2 q2 (p3 ▸ h3) (q3 ▸ h4)
          omega
    have F : ∀ (i : Nat) es k, (old ++ ns.map some)[i]? = some (some es) → (sb i).ownBlock = some k → us.ownBlock ≠ some k ∧ (w0.own k ∧ k < w.heap.size) ∧ (∀ b' x', B b' = some x' → ¬ own L b' x' k) ∧ ∀ o, ¬ A k o := by
      intro i es k h1 h2
      rcases split i es h1 with ⟨p1, p2, p3⟩ | ⟨p1, p2, p3⟩
      · exact ⟨ho.out i es k p2 (p3 ▸ h2), ho.fI i es k p2 (p3 ▸ h2)⟩
      · exact ⟨hoh _ es k p2 (p3 ▸ h2), hn.fI _ es k p2 (p3 ▸ h2)⟩
    have k2' : w'.ownsRow w0.B0 e 1 v' (old ++ ns.map some).length (xs ++ ys) := by rw [List.length_append, hlenN]; exact k2
    rcases k3 with ⟨g, g1, g2, g3, g4, g5, g6, g7, g8⟩ | ⟨g1, g2, g3⟩
    · obtain ⟨f1, f2, f3⟩ := ho.fO g g1
      obtain ⟨L', l1, l2⟩ := hI.matHeir (g := g) sb hBt hlt k2' R Dj (fun i es k h1 h2 => ⟨fun e => (F i es k h1 h2).1 (e ▸ g1), (F i es k h1 h2).2⟩) (fun k hk => by rw [g2] at hk; cases hk; exact ⟨rfl, f1.1⟩) g3 g4 g5 (by omega)
        (fun k _ hk => g7 k (hk.elim id fun hk => by rw [g2] at hk; cases hk)) (fun _ => f3) (fun _ => f2)
      exact ⟨v', w', L', hrun, l1, hone, l2⟩
    · obtain ⟨L', l1, l2⟩ := hI.matHeir (g := w.heap.size) sb hBt hlt k2' R Dj (fun i es k h1 h2 => ⟨fun e => by have := (F i es k h1 h2).2.1.2; omega, (F i es k h1 h2).2⟩) (fun k hk => by rw [g1] at hk; cases hk; exact ⟨rfl, .inl hI.below.size⟩) g2.os g2.on g2.output g2.size
        (fun k hk _ => g2.block k hk) (fun _ o ho => absurd (hI.Aok _ o ho) (by omega)) (fun _ b' x' hx' ho => by have := (hI.lo b' x' _ hx' ho).2; omega)
      exact ⟨v', w', L', hrun, l1, hone, l2⟩

theorem viewE_spec {e sz : Nat} {v : AV} {b lo hi : Nat} {es : List D} {fz : Bool} (h : viewE B e sz v = some (b, lo, hi, es, fz)) : v = .view b sz lo hi ∧ B b = some (.row e sz es fz) := by
  unfold viewE at h
  split at h
  · split at h
    · rename_i hb
      split at h
      · rename_i e1 e2 e3
        have e1 := Nat.eq_of_beq_eq_true e1
        have e2 := Nat.eq_of_beq_eq_true e2
        have e3 := Nat.eq_of_beq_eq_true e3
        simp only [Option.some.injEq, Prod.mk.injEq] at h
        obtain ⟨rfl, rfl, rfl, rfl, rfl⟩ := h
        subst e1; subst e2; subst e3
        exact ⟨rfl, hb⟩
      · cases h
    · cases h
  · cases h
theorem oldRow (P : Program) {dr : Bool} {b e sz : Nat} {es : List D} {fz : Bool} (hI : Inv w0 A0 N L A T B a w) (hbx : B b = some (.row e sz es fz)) (h1 : (L.hd b).oneCell' = true) {dst : Option Nat} {rest : List (Nat × Option Bx)} {T1 : Nat → AV} {B1 : Nat → Option Bx}
    (hu : UpsR dst (kil dr b :: rest) T B T1 B1) : ∃ Tk Bk, Inv w0 A0 N L A Tk Bk a w ∧ UpsR dst rest Tk Bk T1 B1 ∧ OldR w0 L w A Bk e sz es fz (L.hd b) := by
  have ho : Out P none (oldK B dr e sz (.own b sz 0) fun es' fz' kl => .need (es' = es ∧ fz' = fz ∧ kl = [kil dr b]) (.ok (.nil 0) [])) (.nil 0) [] := by
    simp only [oldK, hbx, Nat.beq_refl]
    exact .need (by simp) (.ok _ _)
  obtain ⟨es', fz', kl, ho, h⟩ := oldK_out hI (RV.own b sz 0 h1) ho
  cases ho with
  | need hc ho =>
    obtain ⟨rfl, rfl, rfl⟩ := hc
    exact h hu

/-- 'append' to a part of a row that ends where the row ends. -/
theorem append_view (base : Nat) (t ty e : TypeId) (i : TypeInfo) (z : Value) (size bytes : Nat) (ht : P.underlying t = some (.slice e)) (hi : P.info? e = some i) (hz : i.zero = some z)
    (hsize : i.size = size) (hby : i.bytes = bytes) (hzs : z.cells.size = size) (g n C lo : Nat) (xs : List Value) (hown : w.ownsRow base e size (.slice (some ⟨g, 0, none⟩) n C) n xs) (hlo : lo < n)
    (p : Addr) (m c : Nat) (news : List Value) (hl : news.length = m * size) (hnews : ∀ (j : Nat) u, news[j]? = some u → w.cell? (p.add j) = some u) (h1 : ∀ u ∈ news, u.oneCell' = true)
    (h63 : n + m ≤ 140737488355328) (hbytes : (n + m) * bytes ≤ 140737488355328) (hbase : base ≤ w.heap.size) (hm : 0 < m) :
    (n + m ≤ C → ∃ w', (Builtin.append_ #[t, t] ty #[.slice (some ⟨g, lo * size, none⟩) (n - lo) (C - lo), .slice (some p) m c]).run P w = .ok (.slice (some ⟨g, lo * size, none⟩) (n - lo + m) (C - lo)) w' ∧
        w'.ownsRow base e size (.slice (some ⟨g, 0, none⟩) (n + m) C) (n + m) (xs ++ news) ∧ w'.os = w.os ∧ TapeOn w w' ∧ w'.output = w.output ∧ w'.heap.size = w.heap.size ∧ (∀ k, k ≠ g → w'.heap[k]? = w.heap[k]?) ∧
        ∀ o, o < n * size → w'.cell? ⟨g, o, none⟩ = w.cell? ⟨g, o, none⟩) ∧
    (C < n + m → ∃ v' w', (Builtin.append_ #[t, t] ty #[.slice (some ⟨g, lo * size, none⟩) (n - lo) (C - lo), .slice (some p) m c]).run P w = .ok v' w' ∧ w'.ownsRow base e size v' (n - lo + m) (xs.drop (lo * size) ++ news) ∧
        v'.ownBlock = some w.heap.size ∧ BelowD w w') := by
  subst hsize; subst hby
  have hown0 := hown
  obtain ⟨hxl, ⟨h0, _⟩ | ⟨g', cap, cur, hv, hbg, hg, hnc, hcm, hcs, htake⟩⟩ := hown0
  · cases h0
  cases hv
  constructor
  · intro hroom
    obtain ⟨v', w', k1, k2, k3⟩ := append_two (P := P) base t ty e i z i.size i.bytes ht hi hz rfl rfl hzs _ n xs hown p m c news hl hnews h1 h63 hbytes hbase hm
    have hfit : n * i.size + news.length ≤ cur.size := by rw [hl, hcs, ← Nat.add_mul]; exact Nat.mul_le_mul_right _ hroom
    have cellS : ∀ j, j < news.length → (w.cell? ⟨g, n * i.size + j, none⟩).isSome = true := by
      intro j hj
      rw [cell_of_row w g _ cur e (0, 0) hg, Array.getElem?_eq_getElem (by omega)]
      rfl
    have frz : ∀ j, w.frozen? ⟨g, j, none⟩ = false := by intro j; simp [World.frozen?, hg]
    have A1 := run_append_room_cells (P := P) w t ty e i ht hi g 0 n C p m c news hl hnews h1 hroom (by simpa using cellS) (fun j _ => frz _)
    have hoff : lo * i.size + (n - lo) * i.size = n * i.size := by rw [← Nat.add_mul]; congr 1; omega
    have A2 := run_append_room_cells (P := P) w t ty e i ht hi g (lo * i.size) (n - lo) (C - lo) p m c news hl hnews h1 (by omega) (by rw [hoff]; exact cellS) (fun j _ => frz _)
    rw [A1] at k1
    cases k1
    rw [hoff] at A2
    rw [Nat.zero_add] at k2 k3
    refine ⟨_, A2, k2, ?_⟩
    rcases k3 with ⟨g1, q1, _, rest⟩ | ⟨q1, _⟩
    · cases q1
      exact rest
    · have q1 : g = w.heap.size := Option.some.inj q1
      have hgs : g < w.heap.size := (Array.getElem?_eq_some_iff.1 hg).1
      omega
  · intro hgt
    have hxd : (xs.drop (lo * i.size)).length = (n - lo) * i.size := by rw [List.length_drop, hxl, ← Nat.sub_mul]
    have holds : ∀ j u, (xs.drop (lo * i.size))[j]? = some u → w.cell? ((⟨g, lo * i.size, none⟩ : Addr).add j) = some u := by
      intro j u hj
      rw [List.getElem?_drop] at hj
      have := hown.cells (g := g) rfl _ _ hj
      simpa [Addr.add_lit] using this
    have hb' : (n - lo + m) * i.bytes ≤ 140737488355328 := Nat.le_trans (Nat.mul_le_mul_right _ (by omega)) hbytes
    have hr := run_append_grow (P := P) w t ty e i z ht hi hz ⟨g, lo * i.size, none⟩ (n - lo) (C - lo) _ hxd holds p m c news hl hnews (by omega) (by omega) (growslice_fits (by omega) hb')
    have hlen : (xs.drop (lo * i.size) ++ news).length = (n - lo + m) * i.size := by rw [List.length_append, hxd, hl, Nat.add_mul]
    have hge := grownCap_ge w (n - lo + m) (C - lo) e
    have hcm : grownCap w (n - lo + m) (C - lo) e ≤ maxLen := grownCap_le_maxLen w (n - lo + m) (C - lo) e (by simp only [maxLen]; omega)
    refine ⟨_, _, hr, ⟨hlen, .inr ⟨w.heap.size, _, _, rfl, hbase, heap_new w.drew _, hge, hcm, ?_, ?_⟩⟩, rfl, ⟨((Below.refl _ w).drew).alloc (Nat.le_refl _) _, Nat.le_succ _⟩⟩
    · simp only [Array.size_append, List.size_toArray, size_zeroCells, hzs, hxd, hl, ← Nat.add_mul]
      congr 1
      omega
    · simp only [Array.toList_append, List.append_assoc]
      rw [← List.append_assoc, ← hlen]
      exact List.take_left

/-- What is shown of 'append' of a new row of zeros (VmOc). -/
def AppZ (P : Program) (S : Tys) : Prop := ∀ {type pos after guard} (t : Nat) (s x : Operand) (ty ty' e : TypeId) (ti : TI), TyOk P ty ti → ti.und = .slice e →
  ∀ {oc : Option Orc} {w0 : Ent} {A0 : Sta} {N : Nat} {L : Lay} {A : Sta} {T : Nat → AV} {B : Nat → Option Bx} {a : Act} {w : World} {v ups T1 B1 T2} {K : Act → World → Prop} {Q : Exit → Act → World → Prop},
    Inv w0 A0 N L A T B a w → Out P oc (appZ S t e ty' (evA T s) (evA T x)) v ups → UpsR (some t) ups T B T1 B1 → PutR N (some t) v T1 B1 T2 →
    (∀ L' A' a' w', Inv w0 A0 N L' A' T2 B1 a' w' → K a' w') → Oper.wp P ⟨some t, .call { callee := .builtin .append, args := #[s, x], argTypes := #[ty, ty'] }, type, pos, after, guard⟩ a w K Q

theorem s_append (hS : TysOk P S) (hZ : AppZ P S) {dst type pos after guard} (args : Array Operand) (argTypes : Array TypeId) : Sound P S ⟨dst, .call { callee := .builtin .append, args := args, argTypes := argTypes }, type, pos, after, guard⟩ := by
  refine ⟨?_⟩
  intro w0 A0 N L A T B a w v ups T1 B1 T2 K Q oc dr hoc hI ho hu hp hK
  simp only [eff] at ho
  split at ho
  · rename_i t sv xv ty ty' hargs htys
    split at ho
    · rename_i ti hty ht
      have hty := Nat.eq_of_beq_eq_true hty
      subst hty
      have ht := hS _ _ ht
      split at ho
      · rename_i e hund
        have htu : P.underlying ty = some (.slice e) := by rw [ht.und, hund]
        split at ho
        · rename_i te hte
          have hte := hS _ _ hte
          split at ho
          · cases ho
          · rename_i sz hsz
            obtain ⟨s, x, rfl, hs, hx⟩ := map_two hargs
            have hargT : argTypes = #[ty, ty] := by
              obtain ⟨l⟩ := argTypes
              simp only at htys
              rw [htys]
            subst hargT
            have hsv := ev_rv hI s
            have hxv := ev_rv hI x
            rw [hs] at hsv
            rw [hx] at hxv
            have close : ∀ v' w' L' n, (Builtin.append_ #[ty, ty] type #[a.eval s, a.eval x]).run P w = .ok v' w' → L'.hd t = v' → v'.oneCell' = true → v = .own t (sz + 1) n →
                Inv w0 A0 N L' A T1 B1 a w' → Oper.wp P ⟨some t, .call { callee := .builtin .append, args := #[s, x], argTypes := #[ty, ty] }, type, pos, after, guard⟩ a w K Q := by
              intro v' w' L' n hr hl h1 hv hI'
              refine zarr (run_call_builtin (f := Builtin.append_) (fun _ _ => rfl) (by simpa using hr)) (hK _ _ _ _ (fin hI' ?_ hp))
              subst hl
              rw [hv]
              exact .own _ _ _ h1
            split at ho
            · rename_i c et ie new hsm
              obtain ⟨szc, nc, vc, rfl, hcx⟩ := srcM_spec hsm
              have hxv := rv_own hxv
              split at ho
              · rename_i old kill ns he hom hns
                have he := Nat.eq_of_beq_eq_true he
                subst he
                have hns := allSome_spec hns
                subst hns
                cases ho with
                | need hbound ho =>
                  cases ho
                  have hs1 : te.size = 1 := hsz
                  unfold oldM at hom
                  split at hom
                  · simp only [Option.some.injEq, Prod.mk.injEq] at hom
                    obtain ⟨rfl, rfl⟩ := hom
                    rw [List.nil_append] at hu
                    obtain ⟨Tk, Bk, hIk, hu, inv1, -⟩ := kil_step hI (by rw [hcx]; simp) hu
                    obtain ⟨rfl, rfl, hnone, hlt, _⟩ := upsOneNew rfl hu
                    obtain ⟨ys, hm⟩ := matR hI hcx (B' := Bk) inv1
                    have hnil : a.eval s = .slice none 0 0 := rv_nil hsv
                    obtain ⟨v', w', L', q1, q2, q3, q4⟩ := matAppend (type := type) hIk htu hte hs1 (old := []) (us := .slice none 0 0) (so := fun _ => undef) (xs := []) ⟨⟨by simp, .inl ⟨rfl, rfl⟩⟩, by simp, by simp, by simp, by simp, fun k hk => by simp [Value.ownBlock] at hk⟩ hm (by simp)
                      (fun i es k _ _ hk => by simp [Value.ownBlock] at hk) hbound hnone hlt
                    exact close v' w' L' _ (by rw [hnil, hxv]; exact q1) q2 q3 rfl q4
                  · rename_i b szb nb
                    split at hom
                    · rename_i et' ie' vb rows hbx
                      split at hom
                      · rename_i e1 e2 e3
                        have e1 := Nat.eq_of_beq_eq_true e1
                        have e2 := Nat.eq_of_beq_eq_true e2
                        subst e1; subst e2
                        have hbc : b ≠ c := fun e => by rw [e, Nat.beq_refl] at e3; cases e3
                        simp only [Option.some.injEq, Prod.mk.injEq] at hom
                        obtain ⟨rfl, rfl⟩ := hom
                        obtain ⟨T1k, B1k, hI1, hu, inv1, hne1⟩ := kil_step hI (by rw [hbx]; simp) hu
                        obtain ⟨Tk, Bk, hIk, hu, inv2, -⟩ := kil_step hI1 (hne1 c (Ne.symm hbc) (by rw [hcx]; simp)) hu
                        obtain ⟨rfl, rfl, hnone, hlt, _⟩ := upsOneNew rfl hu
                        obtain ⟨xs, hmo⟩ := matR hI hbx (B' := Bk) fun b' x' g hx' ho => by
                          obtain ⟨h1, y, h2, h3⟩ := inv2 b' x' g hx' ho
                          exact inv1 b' y g h2 h3
                        obtain ⟨ys, hmn⟩ := matR hI hcx (B' := Bk) fun b' x' g hx' ho => by
                          obtain ⟨h1, y, h2, h3⟩ := inv2 b' x' g hx' ho
                          exact ⟨h1, (inv1 b' y g h2 h3).2⟩
                        obtain ⟨v', w', L', q1, q2, q3, q4⟩ := matAppend (type := type) hIk htu hte hs1 hmo hmn
                          (fun i j es es' k h1 h2 h3 h4 => hbc (hI.inj b c _ _ k hbx hcx (.inr ⟨i, es, h1, h3⟩) (.inr ⟨j, es', h2, h4⟩)))
                          (fun i es k h1 h2 h3 => hbc (hI.inj b c _ _ k hbx hcx (.inl h3) (.inr ⟨i, es, h1, h2⟩))) hbound hnone hlt
                        exact close v' w' L' _ (by rw [rv_own hsv, hxv]; exact q1) q2 q3 rfl q4
                      · cases hom
                    · cases hom
                  · cases hom
              · cases ho
            · split at ho
              · rename_i b lo hi' es fz hve
                obtain ⟨rfl, hbx⟩ := viewE_spec hve
                obtain ⟨new, ho2, hsrc⟩ := srcK_out hI hxv ho
                clear ho
                cases ho2 with
                | need hbound ho2 =>
                obtain ⟨rfl, hb1, hb2, hpos⟩ := hbound
                obtain ⟨g, n, C, hh, ⟨hlo, hhi, hnC⟩, hse⟩ := rv_view2 hsv
                obtain ⟨i, z, hi, hi1, hi2, hz, hzm⟩ := hte.info
                have hzs : z.cells.size = sz + 1 := by
                  have hl := (zmatchL_rv (L := L) (w := w) (A := A) hzm).1
                  rw [hte.zlen, hsz] at hl
                  simpa using hl.symm
                have hsrc' : ∃ g o c, a.eval x = .slice (some ⟨g, o, none⟩) new.length c ∧ ∀ (i : Nat) e (j : Nat) c, new[i]? = some e → e.cells[j]? = some c → ∃ u, w.cell? ⟨g, o + i * (sz + 1) + j, none⟩ = some u ∧ Rep w A c u := by
                  rcases hsrc.at_ with ⟨h, _⟩ | h
                  · rw [h] at hpos; exact absurd hpos (by simp)
                  · exact h
                obtain ⟨g0, o0, c0, hxe, hcells⟩ := hsrc'
                obtain ⟨news, n1, n2, n3, n4⟩ := flatten hsrc.hsz hcells
                have hnl : nilV a ⟨some t, .call { callee := .builtin .append, args := #[s, x], argTypes := #[ty, ty] }, type, pos, after, guard⟩ = Nat.ble (es.length - lo + new.length) (C - lo) := by
                  simp only [nilV, hse, hxe]
                have core : ∀ {rest T1' B1'}, UpsR (some t) (kil dr b :: rest) T B T1' B1' → ∃ Tk Bk xs, Inv w0 A0 N L A Tk Bk a w ∧ UpsR (some t) rest Tk Bk T1' B1' ∧ n = es.length ∧
                    w.ownsRow w0.B0 e (sz + 1) (.slice (some ⟨g, 0, none⟩) n C) n xs ∧ (∀ (i : Nat) e, es[i]? = some e → e.cells.length = sz + 1 ∧ e.flat = true) ∧
                    (∀ (i : Nat) e (j : Nat) c v, es[i]? = some e → e.cells[j]? = some c → xs[i * (sz + 1) + j]? = some v → Rep w A c v) ∧
                    ((w0.own g ∧ g < w.heap.size) ∧ (∀ b' x', Bk b' = some x' → ¬ own L b' x' g) ∧ ∀ o, A g o → fz = true ∧ o < es.length * (sz + 1)) := by
                  intro rest T1' B1' hu
                  obtain ⟨Tk, Bk, hIk, hu, hOld⟩ := oldRow P hI hbx (by rw [hh]; rfl) hu
                  obtain ⟨xs, hown, h2, h3⟩ := hOld.row
                  have hfr := hOld.free g (by rw [hh]; rfl)
                  rw [hh] at hown
                  have hne : n = es.length := by rcases hown.2 with ⟨h, _⟩ | ⟨_, _, _, h, _⟩ <;> cases h; rfl
                  exact ⟨Tk, Bk, xs, hIk, hu, hne, by rw [hne] at hown ⊢; exact hown, h2, h3, hfr⟩
                have fin2 : ∀ {v' w' L' T1' B1' v T2'}, (Builtin.append_ #[ty, ty] type #[a.eval s, a.eval x]).run P w = .ok v' w' → Inv w0 A0 N L' A T1' B1' a w' → RV L' w' A v v' → PutR N (some t) v T1' B1' T2' →
                    (∀ L' A' a' w', Inv w0 A0 N L' A' T2' B1' a' w' → K a' w') → Oper.wp P ⟨some t, .call { callee := .builtin .append, args := #[s, x], argTypes := #[ty, ty] }, type, pos, after, guard⟩ a w K Q := by
                  intro v' w' L' T1' B1' v T2' hr hI' hv hp hK
                  exact zarr (run_call_builtin (f := Builtin.append_) (fun _ _ => rfl) (by simpa using hr)) (hK _ _ _ _ (fin hI' hv hp))
                cases ho2 with
                | nilY hw hn he ho2 =>
                  cases ho2
                  rw [hoc] at hw; cases hw
                  replace hn : nilV a ⟨some t, .call { callee := .builtin .append, args := #[s, x], argTypes := #[ty, ty] }, type, pos, after, guard⟩ = true := hn
                  rw [hnl] at hn
                  have hn := Nat.le_of_ble_eq_true hn
                  obtain ⟨Tk, Bk, xs, hIk, hu, rfl, hown, h2, h3, f1, f2, f3⟩ := core hu
                  obtain ⟨rfl, rfl, hnt, hlt, _⟩ := upsOneNew rfl hu
                  obtain ⟨w', k1, m3, g3, g4, g5, g6, g7, g8⟩ := (append_view (P := P) (w := w) w0.B0 ty type e i z (sz + 1) te.bytes htu hi hz (hi1.trans hsz) hi2 hzs g es.length C lo xs hown hlo ⟨g0, o0, none⟩ new.length c0 news n1 n2 n3
                    hb2 hb1 hI.below.b0 hpos).1 (by omega)
                  obtain ⟨L', l1, l2⟩ := hIk.heirs (g := g) (fz := fz) (es := es) (xs := xs) hnt hlt hown.1 m3 h2 hsrc.hsz h3 n4 rfl g3 g4 g5 (by omega) (fun k _ hk => g7 k hk) (fun o ho => g8 o (f3 o ho).2) f3 f2 f1.1
                  have hv := RV.view (w := w') (A := A) t (sz + 1) lo (es.length + new.length) g (es.length + new.length) C l1 ⟨by omega, Nat.le_refl _, by omega⟩
                  rw [show es.length + new.length - lo = es.length - lo + new.length by omega] at hv
                  exact fin2 (by rw [hse, hxe]; exact k1) l2 hv hp hK
                | nilN hw hn ho2 =>
                  cases ho2
                  rw [hoc] at hw; cases hw
                  have hn : nilV a ⟨some t, .call { callee := .builtin .append, args := #[s, x], argTypes := #[ty, ty] }, type, pos, after, guard⟩ = false := hn.elim id fun h => absurd rfl h
                  rw [hnl] at hn
                  have hn : ¬ (es.length - lo + new.length ≤ C - lo) := fun h => by rw [Nat.ble_eq_true_of_le h] at hn; cases hn
                  obtain ⟨Tk, Bk, xs, hIk, hu, rfl, hown, h2, h3, f1, f2, f3⟩ := core hu
                  obtain ⟨rfl, rfl, hnt, hlt, _⟩ := upsOneNew rfl hu
                  obtain ⟨v', w', k1, m3, g1, g2⟩ := (append_view (P := P) (w := w) w0.B0 ty type e i z (sz + 1) te.bytes htu hi hz (hi1.trans hsz) hi2 hzs g es.length C lo xs hown hlo ⟨g0, o0, none⟩ new.length c0 news n1 n2 n3
                    hb2 hb1 hI.below.b0 hpos).2 (by omega)
                  have hdl : (es.drop lo).length = es.length - lo := List.length_drop
                  obtain ⟨L', l1, l2⟩ := hIk.heirs (g := w.heap.size) (fz := false) (es := es.drop lo) (xs := xs.drop (lo * (sz + 1))) hnt hlt (by rw [List.length_drop, hown.1, hdl, Nat.sub_mul]) (by rw [hdl]; exact m3)
                    (fun i e he => h2 (lo + i) e (by rw [← List.getElem?_drop]; exact he)) hsrc.hsz
                    (fun i e j c v he hc hv => h3 (lo + i) e j c v (by rw [← List.getElem?_drop]; exact he) hc (by rw [List.getElem?_drop] at hv; rw [← hv, Nat.add_mul, Nat.add_assoc])) n4 g1 g2.os g2.on g2.output g2.size (fun k hk _ => g2.block k hk)
                    (fun o ho => absurd (hI.Aok _ o ho) (by omega)) (fun o ho => absurd (hI.Aok _ o ho) (by omega)) (fun b' x' hx' hk => by have := (hIk.lo b' x' _ hx' hk).2; omega) (.inl hI.below.size)
                  refine fin2 (by rw [hse, hxe]; exact k1) l2 ?_ hp hK
                  subst l1
                  refine .own _ _ _ ?_
                  obtain ⟨_, ⟨h, _⟩ | ⟨_, _, _, h, _⟩⟩ := m3 <;> rw [h] <;> rfl
              obtain ⟨old, fz, kill, ho, hold⟩ := oldK_out hI hsv ho
              obtain ⟨new, ho, hsrc⟩ := srcK_out hI hxv ho
              cases ho with
              | need hbound ho =>
                cases ho
                obtain ⟨Tk, Bk, hIk, hu, hOld⟩ := hold hu
                obtain ⟨rfl, rfl, hn, hlt, _⟩ := upsOneNew rfl hu
                obtain ⟨xs, hown, h2, h3⟩ := hOld.row
                obtain ⟨i, z, hi, hi1, hi2, hz, hzm⟩ := hte.info
                have hzs : z.cells.size = sz + 1 := by
                  have hl := (zmatchL_rv (L := L) (w := w) (A := A) hzm).1
                  rw [hte.zlen, hsz] at hl
                  simpa using hl.symm
                have onev : ∀ {base n : Nat} {v' : Value} {w' : World} {xs : List Value}, w'.ownsRow base e (sz + 1) v' n xs → v'.oneCell' = true := by
                  rintro base n v' w' xs ⟨_, ⟨rfl, _⟩ | ⟨g, cap, cur, rfl, _⟩⟩ <;> rfl
                -- the source: nothing, or some elements
                have hsrc' : new = [] ∧ (∃ p c, a.eval x = .slice p 0 c) ∨ 0 < new.length ∧ ∃ g o c, a.eval x = .slice (some ⟨g, o, none⟩) new.length c ∧
                    ∀ (i : Nat) e (j : Nat) c, new[i]? = some e → e.cells[j]? = some c → ∃ u, w.cell? ⟨g, o + i * (sz + 1) + j, none⟩ = some u ∧ Rep w A c u := by
                  rcases hsrc.at_ with h | ⟨g, o, c, h1, h2⟩
                  · exact .inl h
                  · rcases Nat.eq_zero_or_pos new.length with h0 | h0
                    · exact .inl ⟨List.eq_nil_of_length_eq_zero h0, _, c, by rw [h1, h0]⟩
                    · exact .inr ⟨h0, g, o, c, h1, h2⟩
                rcases hsrc' with ⟨rfl, p, c, hxe⟩ | ⟨hpos, g0, o0, c0, hxe, hcells⟩
                · have hr := run_append_none (P := P) (w := w) ty type e i (sz + 1) htu hi _ _ _ _ hown p c
                  rw [← hxe] at hr
                  cases hob : (a.eval s).ownBlock with
                  | none =>
                    obtain ⟨e1, e2⟩ := ownBlock_none hown hob
                    have e3 : old = [] := List.eq_nil_of_length_eq_zero e2
                    subst e3
                    obtain ⟨L', l1, l2⟩ := hIk.heirs0 (et := e) (sz := sz + 1) (fz := fz) hn hlt
                    exact close _ w L' _ hr (by rw [l1, e1]) (by rw [e1]; rfl) rfl l2
                  | some g =>
                    obtain ⟨f1, f2, f3⟩ := hOld.free g hob
                    obtain ⟨L', l1, l2⟩ := hIk.heirs (w' := w) (g := g) (fz := fz) (es := old) (new := []) (news := []) (xs := xs) (v' := a.eval s) hn hlt hown.1 (by simpa using hown) h2 (by simp) h3 (by simp) hob rfl .rfl' rfl (Nat.le_refl _)
                      (fun _ _ _ => rfl) (fun _ _ => rfl) f3 f2 f1.1
                    exact close _ w L' _ hr l1 (onev hown) rfl l2
                · obtain ⟨news, n1, n2, n3, n4⟩ := flatten hsrc.hsz hcells
                  obtain ⟨v', w', k1, m3, m4⟩ := append_two (P := P) (w := w) w0.B0 ty type e i z (sz + 1) te.bytes htu hi hz (hi1.trans hsz) hi2 hzs (a.eval s) old.length xs hown ⟨g0, o0, none⟩ new.length c0 news n1 n2 n3
                    hbound.2 hbound.1 hI.below.b0 hpos
                  have m2 : (Builtin.append_ #[ty, ty] type #[a.eval s, a.eval x]).run P w = .ok v' w' := by rw [hxe]; exact k1
                  rcases m4 with ⟨g, g1, g2, g3, g4, g5, g6, g7, g8⟩ | ⟨g1, g2, g3⟩
                  · obtain ⟨f1, f2, f3⟩ := hOld.free g g1
                    obtain ⟨L', l1, l2⟩ := hIk.heirs (g := g) (fz := fz) (es := old) (xs := xs) hn hlt hown.1 m3 h2 hsrc.hsz h3 n4 g2 g3 g4 g5 (by omega) (fun k _ hk => g7 k hk) (fun o ho => g8 o (f3 o ho).2) f3 f2 f1.1
                    exact close v' w' L' _ m2 l1 (onev m3) rfl l2
                  · obtain ⟨L', l1, l2⟩ := hIk.heirs (g := w.heap.size) (fz := fz) (es := old) (xs := xs) hn hlt hown.1 m3 h2 hsrc.hsz h3 n4 g1 g2.os g2.on g2.output g2.size (fun k hk _ => g2.block k hk)
                      (fun o ho => absurd (hI.Aok _ o ho) (by omega)) (fun o ho => absurd (hI.Aok _ o ho) (by omega)) (fun b' x' hx' hk => by have := (hIk.lo b' x' _ hx' hk).2; omega) (.inl hI.below.size)
                    exact close v' w' L' _ m2 l1 (onev m3) rfl l2
        · cases ho
      · cases ho
    · rename_i ti hty ht
      have ht := hS _ _ ht
      split at ho
      · rename_i e hund
        obtain ⟨s, x, rfl, hs, hx⟩ := map_two hargs
        have hargT : argTypes = #[ty, ty'] := by
          obtain ⟨l⟩ := argTypes
          simp only at htys
          rw [htys]
        subst hargT
        rw [← hs, ← hx] at ho
        exact hZ t s x ty ty' e ti ht hund hI ho hu hp hK
      · cases ho
    · cases ho
  · cases ho
end
end Go.Vm
