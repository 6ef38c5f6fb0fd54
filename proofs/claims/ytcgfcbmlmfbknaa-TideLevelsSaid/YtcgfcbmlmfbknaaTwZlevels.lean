/- TideLevels: for every gauge and every minute the law answers true, and its arguments read as before. No condition. -/
import Derived.Test.YtcgfcbmlmfbknaaTwD
import Derived.Test.YtcgfcbmlmfbknaaVmW
import Derived.Test.YtcgfcbmlmfbknaaRows
namespace Go.Proofs.Ytcgfcbmlmfbknaa
open Go Go.Vm Go.Proofs.Try Go.ChangeShapes Go.WideShapes Go.RowKit
theorem own : ownKnob Try.prog.godebug = none := by kernel_rfl
def cMark : List Cs := [.int .i64, .int .i64]
def cGauge : List Cs := [.str, .int .i64, .int .i64, .sl true cMark]
theorem int_of {k : IntKind} {d : D} (h : Ty (.int k) d) : ∃ n, d = .int k n ∧ (Lit.int k n).wf = true := by cases h; exact ⟨_, rfl, by assumption⟩
theorem str_of {d : D} (h : Ty .str d) : ∃ s, d = .str s := by cases h; exact ⟨_, rfl⟩
theorem sl_of {agg : Bool} {cs : List Cs} {d : D} (h : Ty (.sl agg cs) d) : ∃ es, d = .sl cs.length es ∧ ∀ e ∈ es, TyV (agg, cs) e := by
  cases h with
  | sl hk hl h hn => exact ⟨_, rfl, fun e he => ⟨hk e he, hl e he, h e he⟩⟩
theorem agg_of {cs : List Cs} {d : D} (h : TyV (true, cs) d) : ∃ ds, d = .agg ds ∧ ds.length = cs.length ∧ ∀ (j : Nat) c e, cs[j]? = some c → ds[j]? = some e → Ty c e := by
  obtain ⟨ds, rfl⟩ := h.1.1 rfl
  exact ⟨ds, rfl, h.2.1, h.2.2⟩
theorem one_of {c : Cs} {d : D} (h : TyV (false, [c]) d) : Ty c d := by
  have h1 := h.1.2 rfl
  have := h.2.2 0 c d rfl
  rw [one_cells h1] at this
  exact this rfl
theorem map_of {α : Type} {f : α → D} {Q : D → Prop} (hf : ∀ d, Q d → ∃ a, d = f a) : ∀ {es : List D}, (∀ e ∈ es, Q e) → ∃ l : List α, es = l.map f
  | [], _ => ⟨[], rfl⟩
  | e :: es, h => by
    obtain ⟨a, rfl⟩ := hf e (h e (List.mem_cons_self ..))
    obtain ⟨l, rfl⟩ := map_of hf (fun e he => h e (List.mem_cons_of_mem _ he))
    exact ⟨a :: l, rfl⟩
theorem mark_of {d : D} (h : TyV (true, cMark) d) : ∃ m, d = mD m := by
  obtain ⟨ds, rfl, hl, hc⟩ := agg_of h
  match ds, hl with
  | [a, b], _ =>
    obtain ⟨x, rfl, -⟩ := int_of (hc 0 _ a rfl rfl)
    obtain ⟨y, rfl, -⟩ := int_of (hc 1 _ b rfl rfl)
    exact ⟨⟨x, y⟩, rfl⟩
theorem gauge_of {d : D} (h : TyV (true, cGauge) d) : ∃ g, d = gD g := by
  obtain ⟨ds, rfl, hl, hc⟩ := agg_of h
  match ds, hl with
  | [a, b, c, e], _ =>
    obtain ⟨s, rfl⟩ := str_of (hc 0 _ a rfl rfl)
    obtain ⟨x, rfl, -⟩ := int_of (hc 1 _ b rfl rfl)
    obtain ⟨y, rfl, -⟩ := int_of (hc 2 _ c rfl rfl)
    obtain ⟨es, rfl, he⟩ := sl_of (hc 3 _ e rfl rfl)
    obtain ⟨l, rfl⟩ := map_of (fun d hd => mark_of hd) he
    exact ⟨⟨s, x, y, l⟩, rfl⟩
set_option maxRecDepth 100000 in
theorem levels_lifted (os : Os) (started : os.Started) (H : Type) (enc : TypeId × Value → H) :
    ReturnsInHanded {} Try.checked os 3 .any (Rows.tideLevelsSpec.pre6 enc Try.prog Try.f3 [] false) (Rows.tideLevelsSpec.post enc Try.prog Try.f3 false true false false) := by
  refine returnsInHanded_of_change (C := Try.checked) own started (by kernel_rfl) Try.func3
    (ChangeSpec.witness6 (C := Try.checked) false ⟨#[], #[.agg #[.string ⟨#[]⟩, .int .i64 0, .int .i64 0, .slice none 0 0], .int .i64 0], []⟩ 8 (by kernel_rfl) (by kernel_rfl) (by kernel_rfl) (by kernel_rfl)) ?_
  intro W base args ds gs before hval hW _ _
  refine law_of_ev (P := Try.prog) tysOk (by kernel_rfl) 12 [(true, cGauge), (false, [.int .i64])] (by kernel_rfl) (by kernel_rfl) rfl (by kernel_rfl) (tb := 4) (by kernel_rfl) ?_ ?_ W base args ds gs before hval hW
  · intro ds hds
    match ds, hds with
    | [d1, d2], _ => rfl
  · intro xs hx
    match xs, hx with
    | [a, b], hx =>
      obtain ⟨g, rfl⟩ := gauge_of hx.1
      obtain ⟨t, rfl, -⟩ := int_of (one_of hx.2.1)
      exact ev_TideLevels g t
theorem TideLevels_holds : Rows.TideLevelsSaid :=
  OpenClaim.holds_of_wide 3 Try.f3 rfl rfl rfl rfl rfl rfl rfl ⟨rfl, rfl, rfl, rfl, rfl⟩ rfl rfl rfl rfl rfl (by kernel_rfl) Try.func3 (by kernel_rfl)
    (of_decide_eq_true (by kernel_rfl)) (by unfold Func.isWrapper; first | (rw [if_pos (by decide +kernel)]; kernel_rfl) | (rw [if_neg (by decide +kernel)]; exact ⟨rfl, rfl⟩))
    (fun os started H enc _ => levels_lifted os started H enc)
end Go.Proofs.Ytcgfcbmlmfbknaa
