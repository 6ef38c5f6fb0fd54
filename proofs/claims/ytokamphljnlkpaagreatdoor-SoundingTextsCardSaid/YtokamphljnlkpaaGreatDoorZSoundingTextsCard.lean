/- SoundingTexts: for every raw sounding, sheet and text the law answers true, and its arguments read behind the call as before. The row, and the card by the given ties. -/
import Derived.Test.YtokamphljnlkpaaGreatDoorCards
import Derived.Test.YtokamphljnlkpaaGreatDoorTie
import Derived.ProofKit
import Derived.LaidMore
import Derived.Lay
import Derived.SevenTiedAt
import Derived.Stop.Joined
import Derived.Stop.LaidErr
import Derived.Lib.LaidTab
import Derived.Shelf.Vars
import Derived.Test.YtokamphljnlkpaaGreatDoorMgA
import Derived.Test.YtokamphljnlkpaaGreatDoorMgB
import Derived.Test.YtokamphljnlkpaaGreatDoorMgC
import Derived.Test.YtokamphljnlkpaaGreatDoorMgD
import Derived.Test.YtokamphljnlkpaaGreatDoorMgE
import Derived.Test.YtokamphljnlkpaaGreatDoorMgF
import Derived.Test.YtokamphljnlkpaaGreatDoorMgG
import Derived.Test.YtokamphljnlkpaaGreatDoorMgH
import Derived.Test.YtokamphljnlkpaaGreatDoorMgI
import Derived.Test.YtokamphljnlkpaaGreatDoorMgX
import Derived.Test.YtokamphljnlkpaaGreatDoorMgJ
import Derived.Test.YtokamphljnlkpaaGreatDoorMpc
namespace Go.Proofs.YtokamphljnlkpaaGreatDoor
open Go Go.Vm Go.Proofs.Tryz Go.ChangeShapes Go.WideShapes Go.RowKit
theorem own : ownKnob Tryz.prog.godebug = none := by kernel_rfl
theorem star : "*" ++ "errors.errorString" = "*errors.errorString" := by decide
theorem rowErr (u : TypeId) (h : Tryz.prog.typeName? 3 u = some "*errors.errorString") : u = 215 :=
  typeName_ptr_named (nm := "errors.errorString") (by rw [star]; kernel_rfl) (by kernel_rfl) (by decide) u (by rw [star]; exact h)
theorem heap_of_var {P : Program} {W : World} {n : String} {g : Nat} {cs : Array Value} (hg : P.globalNamed n = some g) (h : W.var? P n = some cs) : ∃ t f, W.heap[g]? = some (.cells cs t f) := by
  unfold World.var? at h
  simp only [hg, Option.bind_some] at h
  cases ho : W.heap[g]? with
  | none => simp [ho] at h
  | some o =>
    rw [ho] at h
    cases o with
    | cells a t f => simp at h; subst h; exact ⟨t, f, rfl⟩
    | _ => simp at h
theorem int_of_shaped {P : Program} {w : World} {g : Nat} {t : TypeId} {zero : Array Value} {k : IntKind}
    (h : w.ShapedOpen P) (hg : g < P.globals.size)
    (h0 : ((begin P (fun _ _ => 0) default).world.heap[g]?).bind Obj.row? = some (zero, t)) (hz : zero.size = 1)
    (hb : P.buildable t = true) (hc : P.cellTypes P.depth t = some [t]) (hu : P.underlying t = some (.int k)) :
    ∃ m t f, w.heap[g]? = some (.cells #[.int k m] t f) := by
  obtain ⟨m, hm⟩ := cell_of_shapedOpen_int h hg h0 hz hb hc hu
  obtain ⟨cs, hh, hs, -⟩ := h.1 g zero t hg h0
  unfold World.cell? at hm
  rw [hh] at hm
  have h1 : cs.size = 1 := by omega
  obtain ⟨l⟩ := cs
  match l, h1 with
  | [c], _ =>
    simp at hm
    subst hm
    exact ⟨m, _, _, hh⟩
abbrev laidL : List (String × DataW Unit) := Rows.soundingTextsRow.laid
theorem globs_ok {W : World} (h : laidMetH Tryz.prog laidL W) (hs : W.ShapedOpen Tryz.prog) : GOk W.heap.size W := by
  rw [MakeChecks.laidMetH_plain _ _ _ (by kernel_rfl)] at h
  have hp : Lib.TabIs Tryz.prog W "internal/strconv.uint64pow10" .u64 Lib.pow10Tab := by
    have h2 := h.tail.tail
    exact Lib.tabIs_of_head (g := 3) (t := 212) (e := 153) (n := 20) (by kernel_rfl) (by kernel_rfl) (by kernel_rfl) (by kernel_rfl) (by kernel_rfl) (by kernel_rfl) h2
  obtain ⟨a5, s5, hv5, -⟩ := laid_sentinel (g := 1) (ti := 78) (tp := 215) (te := 217) (ts := 9) h.tail.tail.tail.tail (by kernel_rfl) (by kernel_rfl) Tryz.underlying78 rowErr Tryz.underlying215 Tryz.underlying217 rfl rfl Tryz.underlying9 (by kernel_rfl) (by kernel_rfl)
  obtain ⟨a4, s4, hv4, -⟩ := laid_sentinel (g := 0) (ti := 78) (tp := 215) (te := 217) (ts := 9) h.tail.tail.tail.tail.tail (by kernel_rfl) (by kernel_rfl) Tryz.underlying78 rowErr Tryz.underlying215 Tryz.underlying217 rfl rfl Tryz.underlying9 (by kernel_rfl) (by kernel_rfl)
  obtain ⟨t0, f0, e0⟩ := heap_of_var (g := 3) (by kernel_rfl) hp
  obtain ⟨t5, f5, e5⟩ := heap_of_var (g := 1) (by kernel_rfl) hv5
  obtain ⟨t4, f4, e4⟩ := heap_of_var (g := 0) (by kernel_rfl) hv4
  obtain ⟨m, t1, f1, e1⟩ := int_of_shaped (g := 2) (t := 3) (zero := #[.int .i64 0]) (k := .i64) hs (of_decide_eq_true (by kernel_rfl)) (by kernel_rfl) rfl (by kernel_rfl) (by kernel_rfl) Tryz.underlying3
  have lt : ∀ {g : Nat} {o : Obj}, W.heap[g]? = some o → g < W.heap.size := fun {g o} e => by
    rcases Nat.lt_or_ge g W.heap.size with h' | h'
    · exact h'
    · rw [Array.getElem?_eq_none h'] at e; cases e
  intro x hx
  simp only [globs, List.mem_cons, List.not_mem_nil, or_false] at hx
  rcases hx with rfl | rfl | rfl | rfl
  · exact ⟨lt e0, _, e0, _, _, rfl⟩
  · exact ⟨lt e1, _, e1, _, _, _, rfl⟩
  · exact ⟨lt e4, _, e4, _, _, _, _, rfl⟩
  · exact ⟨lt e5, _, e5, _, _, _, _, rfl⟩
set_option maxRecDepth 100000 in
theorem lifted (os : Os) (started : os.Started) (H : Type) (enc : TypeId × Value → H) :
    ReturnsInHanded {} Tryz.checked os 3 .any (fun w args => (Rows.soundingTextsSpec.pre enc Tryz.prog Tryz.f3 [] false w args ∧ laidMetH Tryz.prog laidL w) ∧ sizedMet enc Tryz.prog Tryz.f3 (OpenSpec.ofChange Rows.soundingTextsSpec) false w args)
      (Rows.soundingTextsSpec.post enc Tryz.prog Tryz.f3 false true false false) := by
  refine returnsInHanded_of_calls (C := Tryz.checked) own started (by kernel_rfl)
    (ChangeSpec.witness_shaped (enc := enc) (C := Tryz.checked) (os := os) (X := fun w _ => laidMetH Tryz.prog laidL w) false (World.laidAll Tryz.prog os laidL) #[.agg #[.int .i64 0, .int .i64 0, .int .i64 0, .int .i64 0, .int .i64 0, .int .i64 0, .int .i64 0], .slice none 0 0, .string ⟨#[]⟩] 8 (World.laidAll_os _ _ _)
      (World.shaped_of_ZipB (by kernel_rfl) (by kernel_rfl)) (by kernel_rfl) (by kernel_rfl) (by kernel_rfl)
      (by rw [MakeChecks.laidMetH_plain _ _ _ (by kernel_rfl)]; exact laidMet_laidAll _ (by kernel_rfl) (by kernel_rfl))) ?_
  intro w tape i _ hsh _ hok hpre hholds
  obtain ⟨_, _, _, fn', hfn', _, _, _, _, hval⟩ := hok
  have e : fn' = Tryz.f3 := Option.some.inj (hfn'.symm.trans Tryz.func3)
  subst e
  obtain ⟨⟨⟨ds, gs, before, hw, hc⟩, hx⟩, hz⟩ := hpre
  have hw' := DataW.Whole.of_heap (w' := w.forCall tape i) (by rfl) hw
  have hl : laidMetH Tryz.prog laidL (w.forCall tape i) := hx.of_heap (by rfl)
  refine Calls.mono (law_of_ev (P := Tryz.prog) (s := Rows.soundingTextsSpec) (apart := false) (fresh := true) (handsOn := false) (again := false) tysOk (by kernel_rfl) 12 [(true, cRaw), (false, [.sl true cSg]), (false, [.str])] (by kernel_rfl) (by kernel_rfl) rfl (by kernel_rfl) (tb := 4) (by kernel_rfl) ?_ ?_ (w.forCall tape i) w.heap.size i.args ds gs before hval hw' (globs_ok hl hsh)) ?_
  · intro ds hds
    match ds, hds with
    | [d0, d1, d2], _ => rfl
  · intro xs hx
    match xs, hx with
    | [a0, a1, a2], hx =>
      obtain ⟨r0, rfl⟩ := raw_of hx.1
      obtain ⟨l1, rfl⟩ := sgs_of (one_of hx.2.1)
      obtain ⟨s2, rfl, -⟩ := str_of (one_of hx.2.2.1)
      exact ev_SoundingTexts r0 l1 s2
  · intro e W' ⟨v, he, hp⟩
    subst he
    exact ChangeSpec.post_blind hp
theorem SoundingTexts_row_holds : Rows.SoundingTextsSaid :=
  OpenClaim.holds_of_wide 3 Tryz.f3 rfl rfl rfl rfl rfl rfl rfl ⟨rfl, rfl, rfl, rfl, rfl⟩ rfl rfl rfl rfl rfl (by kernel_rfl) Tryz.func3 (by kernel_rfl)
    (of_decide_eq_true (by kernel_rfl)) (by unfold Func.isWrapper; first | (rw [if_pos (by decide +kernel)]; kernel_rfl) | (rw [if_neg (by decide +kernel)]; exact ⟨rfl, rfl⟩))
    (fun os started H enc _ => lifted os started H enc)
theorem SoundingTextsCard_holds : Rows.SoundingTextsCardSaid :=
  Claim7.holds_tied_plain_at .later [] [.data, .data, .data, .data, .sentinel, .sentinel, .pinned] true (true, "33504cd309956b6d6b8f3c21b73ebdf177e725d27035d8ad00b852a71466a1b9") true SoundingTexts_row_holds (fun _ h => by cases h) (by kernel_rfl) (fun _ h => by cases h) soundingTexts_row_tie rfl ⟨rfl, rfl⟩ (by kernel_rfl) rfl
    (fun f fn hf hfn => by
      obtain rfl : f = 3 := Option.some.inj ((show Tryz.prog.funcNamed "draghead/dragheadlaw03.SoundingTexts" = some 3 by kernel_rfl).symm.trans hf) |>.symm
      obtain rfl : fn = Tryz.f3 := (Option.some.inj (Tryz.func3.symm.trans hfn)).symm
      exact ⟨by kernel_rfl, fun j t ht => by
        rw [Tryz.params3] at ht
        have hm : t ∈ [23, 24, 9] := by simpa using Array.mem_of_getElem? ht
        have hall : ([23, 24, 9].all fun u => !Tryz.prog.wantsStandIn u) = true := by kernel_rfl
        exact (show Tryz.prog.wantsStandIn t = false by simpa using List.all_eq_true.1 hall t hm)⟩)
    (by kernel_rfl)
end Go.Proofs.YtokamphljnlkpaaGreatDoor
