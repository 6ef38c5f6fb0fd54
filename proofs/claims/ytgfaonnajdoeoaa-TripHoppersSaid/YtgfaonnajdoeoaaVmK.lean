/- Each operation, seventh part: append at the operation; make; closures; calls. -/
import Derived.Test.YtgfaonnajdoeoaaVmJ
namespace Go.Vm
open Go.RowKit (Below)
section
variable {P : Program} {S : Tys}
variable {w0 : World} {A0 : Sta} {N : Nat} {L : Lay} {A : Sta} {T : Nat → AV} {B : Nat → Option Bx} {a : Act} {w : World}

/-- After the row that was appended to has gone: the heir comes. -/
theorem Inv.heirs (h : Inv w0 A0 N L A T B a w) {w' : World} {t g et sz : Nat} {es new : List D} {xs news : List Value} {fz : Bool} {v' : Value} (hn : B t = none)
    (hxl : xs.length = es.length * sz) (hown : w'.ownsRow w0.heap.size et sz v' (es.length + new.length) (xs ++ news))
    (h2 : ∀ (i : Nat) e, es[i]? = some e → e.cells.length = sz ∧ e.flat = true) (h2' : ∀ (i : Nat) e, new[i]? = some e → e.cells.length = sz ∧ e.flat = true)
    (h3 : ∀ (i : Nat) e (j : Nat) c v, es[i]? = some e → e.cells[j]? = some c → xs[i * sz + j]? = some v → Rep w A c v)
    (h3' : ∀ (i : Nat) e (j : Nat) c v, new[i]? = some e → e.cells[j]? = some c → news[i * sz + j]? = some v → Rep w A c v)
    (hb : v'.ownBlock = some g) (hos : w'.os = w.os) (htape : w'.tape = w.tape) (hout : w'.output = w.output) (hsize : w.heap.size ≤ w'.heap.size)
    (hblock : ∀ k, k < w.heap.size → k ≠ g → w'.heap[k]? = w.heap[k]?) (hcell : ∀ o, A g o → w'.cell? ⟨g, o, none⟩ = w.cell? ⟨g, o, none⟩)
    (hA : ∀ o, A g o → fz = true ∧ o < es.length * sz) (hfree : ∀ b' x', B b' = some x' → blk L b' x' → L.ι b' ≠ g) :
    ∃ L', L'.hd t = v' ∧ Inv w0 A0 N L' A T (upd B t (some (.row et sz (es ++ new) fz))) a w' := by
  have hw : ∀ k o, A k o → w'.cell? ⟨k, o, none⟩ = w.cell? ⟨k, o, none⟩ := by
    intro k o hk
    by_cases e : k = g
    · subst e; exact hcell o hk
    · exact World.cell?_of_block (w := w) (hblock k (h.Aok k o hk) e)
  refine ⟨⟨upd L.ι t g, upd L.hd t v'⟩, upd_same _ _ _, h.adopt hn hos htape hout hsize hblock hcell ?_ ?_ hfree (fun b' hb' => (by cases hb'))⟩
  · exact heir (upd_same _ _ _) (upd_same _ _ _) hxl hown h2 h2' (fun i e j c v he hc hv => (h3 i e j c v he hc hv).frame (fun _ _ h => h) hw) (fun i e j c v he hc hv => (h3' i e j c v he hc hv).frame (fun _ _ h => h) hw) hb hA
  · intro _
    have := ownsRow_lt hown hb
    exact ⟨this.1, this.2⟩
/-- The same where there is still no block. -/
theorem Inv.heirs0 (h : Inv w0 A0 N L A T B a w) {t et sz : Nat} {fz : Bool} (hn : B t = none) : ∃ L', L'.hd t = .slice none 0 0 ∧ Inv w0 A0 N L' A T (upd B t (some (.row et sz [] fz))) a w := by
  refine ⟨⟨upd L.ι t w.heap.size, upd L.hd t (.slice none 0 0)⟩, upd_same _ _ _, h.adopt hn rfl rfl rfl (Nat.le_refl _) (fun _ _ _ => rfl) (fun _ _ => rfl) ?_ ?_ (fun b' x' hx' hk => ?_) (fun b' hb' => (by cases hb'))⟩
  · refine ⟨[], ⟨by simp, .inl ⟨upd_same _ _ _, rfl⟩⟩, by simp, by simp, fun g hg => ?_, fun hne => absurd (upd_same _ _ _) hne⟩
    simp only [upd_same] at hg
    simp [Value.ownBlock] at hg
  · rintro (hlt | hne)
    · omega
    · exact absurd (upd_same _ _ _) hne
  · have := (h.lo b' x' hx' hk).2; omega

theorem killB_some {b b' : Nat} {x' : Bx} (h : killB B b b' = some x') : b' ≠ b ∧ ∃ x, B b' = some x ∧ (∀ L : Lay, blk L b' x' ↔ blk L b' x) := by
  unfold killB at h
  by_cases e : b' = b
  · rw [if_pos e] at h; cases h
  · rw [if_neg e, Option.map_eq_some_iff] at h
    obtain ⟨x, hx, rfl⟩ := h
    exact ⟨e, x, hx, fun L => by cases x <;> exact Iff.rfl⟩

theorem s_append (hS : TysOk P S) {dst type pos after guard} (args : Array Operand) (argTypes : Array TypeId) : Sound P S ⟨dst, .call { callee := .builtin .append, args := args, argTypes := argTypes }, type, pos, after, guard⟩ := by
  refine ⟨?_⟩
  intro w0 A0 N L A T B a w v ups T1 B1 T2 K Q hI ho hu hp hK
  simp only [eff] at ho
  split at ho
  · rename_i t sv xv ty ty' hargs htys
    split at ho
    · rename_i ti hty ht
      have hty := Nat.eq_of_beq_eq_true hty
      subst hty
      have ht := hS _ _ ht
      split at ho
      · rename_i e hund
        have htu : P.underlying ty = some (.slice e) := by rw [ht.und, hund]
        split at ho
        · rename_i te hte
          have hte := hS _ _ hte
          split at ho
          · cases ho
          · rename_i sz hsz
            obtain ⟨s, x, rfl, hs, hx⟩ := map_two hargs
            have hargT : argTypes = #[ty, ty] := by
              obtain ⟨l⟩ := argTypes
              simp only at htys
              rw [htys]
            subst hargT
            have hsv := ev_rv hI s
            have hxv := ev_rv hI x
            rw [hs] at hsv
            rw [hx] at hxv
            obtain ⟨old, fz, kill, ho, hold⟩ := oldK_out hsv ho
            obtain ⟨new, ho, hsrc⟩ := srcK_out hI hxv ho
            cases ho with
            | need hbound ho =>
              cases ho
              obtain ⟨i, z, hi, hi1, hi2, hz, hzm⟩ := hte.info
              have hzs : z.cells.size = sz + 1 := by
                have hl := (zmatchL_rv (L := L) (w := w) (A := A) hzm).1
                rw [hte.zlen, hsz] at hl
                simpa using hl.symm
              have close : ∀ v' w' L', (Builtin.append_ #[ty, ty] type #[a.eval s, a.eval x]).run P w = .ok v' w' → L'.hd t = v' → v'.oneCell' = true →
                  Inv w0 A0 N L' A T1 B1 a w' → Oper.wp P ⟨some t, .call { callee := .builtin .append, args := #[s, x], argTypes := #[ty, ty] }, type, pos, after, guard⟩ a w K Q := by
                intro v' w' L' hr hl h1 hI'
                refine zarr (run_call_builtin (f := Builtin.append_) (fun _ _ => rfl) (by simpa using hr)) (hK _ _ _ _ (fin hI' ?_ hp))
                subst hl
                exact .own _ _ _ h1
              have onev : ∀ {base n : Nat} {v' : Value} {w' : World} {xs : List Value}, w'.ownsRow base e (sz + 1) v' n xs → v'.oneCell' = true := by
                rintro base n v' w' xs ⟨_, ⟨rfl, _⟩ | ⟨g, cap, cur, rfl, _⟩⟩ <;> rfl
              -- the source: nothing, or some elements
              have hsrc' : new = [] ∧ (∃ p c, a.eval x = .slice p 0 c) ∨ 0 < new.length ∧ ∃ g o c, a.eval x = .slice (some ⟨g, o, none⟩) new.length c ∧
                  ∀ (i : Nat) e (j : Nat) c, new[i]? = some e → e.cells[j]? = some c → ∃ u, w.cell? ⟨g, o + i * (sz + 1) + j, none⟩ = some u ∧ Rep w A c u := by
                rcases hsrc.at_ with h | ⟨g, o, c, h1, h2⟩
                · exact .inl h
                · rcases Nat.eq_zero_or_pos new.length with h0 | h0
                  · exact .inl ⟨List.eq_nil_of_length_eq_zero h0, _, c, by rw [h1, h0]⟩
                  · exact .inr ⟨h0, g, o, c, h1, h2⟩
              have grow : ∀ (n : Nat) (xs : List Value), w.ownsRow w0.heap.size e (sz + 1) (a.eval s) n xs → n = old.length → 0 < new.length → (∃ g o c, a.eval x = .slice (some ⟨g, o, none⟩) new.length c ∧
                  ∀ (i : Nat) e (j : Nat) c, new[i]? = some e → e.cells[j]? = some c → ∃ u, w.cell? ⟨g, o + i * (sz + 1) + j, none⟩ = some u ∧ Rep w A c u) →
                  ∃ (news : List Value) (v' : Value) (w' : World), (∀ (i : Nat) e (j : Nat) c v, new[i]? = some e → e.cells[j]? = some c → news[i * (sz + 1) + j]? = some v → Rep w A c v) ∧
                    (Builtin.append_ #[ty, ty] type #[a.eval s, a.eval x]).run P w = .ok v' w' ∧ w'.ownsRow w0.heap.size e (sz + 1) v' (old.length + new.length) (xs ++ news) ∧
                    ((∃ g, (a.eval s).ownBlock = some g ∧ v'.ownBlock = some g ∧ w'.os = w.os ∧ w'.tape = w.tape ∧ w'.output = w.output ∧ w'.heap.size = w.heap.size ∧ (∀ k, k ≠ g → w'.heap[k]? = w.heap[k]?) ∧
                        ∀ o, o < old.length * (sz + 1) → w'.cell? ⟨g, o, none⟩ = w.cell? ⟨g, o, none⟩) ∨
                      (v'.ownBlock = some w.heap.size ∧ Below w.heap.size w w' ∧ w.heap.size < w'.heap.size)) := by
                rintro n xs hown rfl hpos ⟨g, o, c, hxv', hcells⟩
                obtain ⟨news, n1, n2, n3, n4⟩ := flatten hsrc.hsz hcells
                obtain ⟨v', w', k1, k2, k3⟩ := append_two (P := P) (w := w) w0.heap.size ty type e i z (sz + 1) te.bytes htu hi hz (hi1.trans hsz) hi2 hzs (a.eval s) old.length xs hown ⟨g, o, none⟩ new.length c news n1 n2 n3
                  hbound.2 hbound.1 hI.below.size hpos
                exact ⟨news, v', w', n4, by rw [hxv']; exact k1, k2, k3⟩
              rcases hold with ⟨rfl, rfl, rfl, hnil⟩ | ⟨b, rfl, hbx, hhd⟩
              · -- nil
                rcases upsKillNew rfl hu (.inl rfl) with ⟨_, rfl, hn, rfl⟩ | ⟨b, hb, _⟩
                · have hown0 : w.ownsRow w0.heap.size e (sz + 1) (a.eval s) 0 [] := by rw [hnil]; exact ⟨by simp, .inl ⟨rfl, rfl⟩⟩
                  rcases hsrc' with ⟨rfl, p, c, hxe⟩ | ⟨hpos, hxe⟩
                  · obtain ⟨L', l1, l2⟩ := hI.heirs0 (et := e) (sz := sz + 1) (fz := false) hn
                    refine close _ w L' ?_ l1 rfl l2
                    rw [hxe, hnil]
                    rw [hnil] at hown0
                    exact run_append_none ty type e i (sz + 1) htu hi _ _ _ _ hown0 p c
                  · obtain ⟨news, v', w', m1, m2, m3, m4⟩ := grow 0 [] hown0 rfl hpos hxe
                    rcases m4 with ⟨g, g1, _⟩ | ⟨g1, g2, g3⟩
                    · rw [hnil] at g1; simp [Value.ownBlock] at g1
                    · obtain ⟨L', l1, l2⟩ := hI.heirs (g := w.heap.size) (fz := false) (es := []) (xs := []) hn (by simp) m3 (by simp) hsrc.hsz (by simp) m1 g1 g2.os g2.tape g2.output g2.size (fun k hk _ => g2.block k hk)
                        (fun o ho => absurd (hI.Aok _ o ho) (by omega)) (fun o ho => absurd (hI.Aok _ o ho) (by omega)) (fun b' x' hx' hk => by have := (hI.lo b' x' hx' hk).2; omega)
                      exact close v' w' L' m2 l1 (onev m3) l2
                · cases hb
              · -- a row of the call's own
                rcases upsKillNew rfl hu (.inr ⟨b, rfl⟩) with ⟨hb, _⟩ | ⟨b', hb', rfl, hn, rfl⟩
                · cases hb
                · simp only [List.cons.injEq, Prod.mk.injEq, and_true] at hb'
                  subst hb'
                  obtain ⟨xs, hown, h2, h3, h4, h5⟩ := hI.bxs b _ hbx
                  have hIk := hI.kill b
                  have free : L.hd b ≠ .slice none 0 0 → ∀ b' x', killB B b b' = some x' → blk L b' x' → L.ι b' ≠ L.ι b := by
                    intro hne b' x' hx' hk
                    obtain ⟨e1, y, hy, hiff⟩ := killB_some hx'
                    intro e2
                    exact e1 (hI.inj b' b y _ hy hbx ((hiff L).1 hk) hne e2)
                  rw [← hhd] at hown
                  rcases hsrc' with ⟨rfl, p, c, hxe⟩ | ⟨hpos, hxe⟩
                  · have hr := run_append_none (P := P) (w := w) ty type e i (sz + 1) htu hi _ _ _ _ hown p c
                    rw [← hxe] at hr
                    cases hob : (L.hd b).ownBlock with
                    | none =>
                      rw [hhd] at hown
                      obtain ⟨e1, e2⟩ := ownBlock_none hown hob
                      have e3 : old = [] := List.eq_nil_of_length_eq_zero e2
                      subst e3
                      obtain ⟨L', l1, l2⟩ := hIk.heirs0 (et := e) (sz := sz + 1) (fz := fz) hn
                      exact close _ w L' hr (by rw [l1, hhd, e1]) (by rw [hhd, e1]; rfl) l2
                    | some g =>
                      have hg := h4 g hob
                      subst hg
                      have hne := ownBlock_ne hob
                      obtain ⟨L', l1, l2⟩ := hIk.heirs (w' := w) (g := L.ι b) (fz := fz) (es := old) (new := []) (news := []) (xs := xs) (v' := a.eval s) hn hown.1 (by simpa using hown) h2 (by simp) h3 (by simp) (by rw [hhd]; exact hob) rfl rfl rfl (Nat.le_refl _)
                        (fun _ _ _ => rfl) (fun _ _ => rfl) (h5 hne) (free hne)
                      exact close _ w L' hr l1 (onev hown) l2
                  · obtain ⟨news, v', w', m1, m2, m3, m4⟩ := grow _ xs hown rfl hpos hxe
                    rcases m4 with ⟨g, g1, g2, g3, g4, g5, g6, g7, g8⟩ | ⟨g1, g2, g3⟩
                    · rw [hhd] at g1
                      have hg := h4 g g1
                      subst hg
                      have hne := ownBlock_ne g1
                      obtain ⟨L', l1, l2⟩ := hIk.heirs (g := L.ι b) (fz := fz) (es := old) (xs := xs) hn hown.1 m3 h2 hsrc.hsz h3 m1 g2 g3 g4 g5 (by omega) (fun k _ hk => g7 k hk) (fun o ho => g8 o (h5 hne o ho).2) (h5 hne) (free hne)
                      exact close v' w' L' m2 l1 (onev m3) l2
                    · obtain ⟨L', l1, l2⟩ := hIk.heirs (g := w.heap.size) (fz := fz) (es := old) (xs := xs) hn hown.1 m3 h2 hsrc.hsz h3 m1 g1 g2.os g2.tape g2.output g2.size (fun k hk _ => g2.block k hk)
                        (fun o ho => absurd (hI.Aok _ o ho) (by omega)) (fun o ho => absurd (hI.Aok _ o ho) (by omega)) (fun b' x' hx' hk => by have := (hIk.lo b' x' hx' hk).2; omega)
                      exact close v' w' L' m2 l1 (onev m3) l2
        · cases ho
      · cases ho
    · cases ho
  · cases ho
end
end Go.Vm
