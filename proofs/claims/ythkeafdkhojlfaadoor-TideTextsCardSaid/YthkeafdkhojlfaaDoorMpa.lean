/- Texts TwZ, joined; what is not needed is left out. -/
import Derived.Test.YthkeafdkhojlfaaDoorMgJ
import Derived.Test.YthkeafdkhojlfaaDoorProg
import Derived.Test.YthkeafdkhojlfaaDoorMgH
import Derived.Test.YthkeafdkhojlfaaDoorMcb
section
namespace Go.Proofs.Tryd
open Go Go.Vm
def cMark : List Cs := [.int .i64, .int .i64]
def cGauge : List Cs := [.str, .int .i64, .int .i64, .sl true cMark]
theorem int_of {k : IntKind} {d : D} (h : Ty (.int k) d) : ∃ n, d = .int k n ∧ (Lit.int k n).wf = true := by cases h; exact ⟨_, rfl, by assumption⟩
theorem str_of {d : D} (h : Ty .str d) : ∃ s, d = .str s ∧ s.size ≤ 9223372036854775807 := by
 cases h with
 | str s h => exact ⟨_, rfl, h⟩
theorem sl_of {agg : Bool} {cs : List Cs} {d : D} (h : Ty (.sl agg cs) d) : ∃ es, d = .sl cs.length es ∧ (∀ e ∈ es, TyV (agg, cs) e) ∧ es.length ≤ 9223372036854775807 := by
 cases h with
 | sl hk hl h hn => exact ⟨_, rfl, fun e he => ⟨hk e he, hl e he, h e he⟩, hn⟩
theorem agg_of {cs : List Cs} {d : D} (h : TyV (true, cs) d) : ∃ ds, d = .agg ds ∧ ds.length = cs.length ∧ ∀ (j : Nat) c e, cs[j]? = some c → ds[j]? = some e → Ty c e := by
 obtain ⟨ds, rfl⟩ := h.1.1 rfl
 exact ⟨ds, rfl, h.2.1, h.2.2⟩
theorem map_of {α : Type} {f : α → D} {Q : D → Prop} (hf : ∀ d, Q d → ∃ a, d = f a) : ∀ {es : List D}, (∀ e ∈ es, Q e) → ∃ l : List α, es = l.map f
 | [], _ => ⟨[], rfl⟩
 | e :: es, h => by
  obtain ⟨a, rfl⟩ := hf e (h e (List.mem_cons_self ..))
  obtain ⟨l, rfl⟩ := map_of hf (fun e he => h e (List.mem_cons_of_mem _ he))
  exact ⟨a :: l, rfl⟩
theorem mark_of {d : D} (h : TyV (true, cMark) d) : ∃ m, d = mD m := by
 obtain ⟨ds, rfl, hl, hc⟩ := agg_of h
 match ds, hl with
 | [a, b], _ =>
  obtain ⟨x, rfl, -⟩ := int_of (hc 0 _ a rfl rfl)
  obtain ⟨y, rfl, -⟩ := int_of (hc 1 _ b rfl rfl)
  exact ⟨⟨x, y⟩, rfl⟩
theorem marks_of {d : D} (h : Ty (.sl true cMark) d) : ∃ l : List Mk, d = .sl 2 (l.map mD) := by
 obtain ⟨es, rfl, he, -⟩ := sl_of h
 obtain ⟨l, rfl⟩ := map_of (fun d hd => mark_of hd) he
 exact ⟨l, rfl⟩
theorem gauge_of {d : D} (h : TyV (true, cGauge) d) : ∃ g, d = gD g := by
 obtain ⟨ds, rfl, hl, hc⟩ := agg_of h
 match ds, hl with
 | [a, b, c, e], _ =>
  obtain ⟨s, rfl, -⟩ := str_of (hc 0 _ a rfl rfl)
  obtain ⟨x, rfl, -⟩ := int_of (hc 1 _ b rfl rfl)
  obtain ⟨y, rfl, -⟩ := int_of (hc 2 _ c rfl rfl)
  obtain ⟨l, rfl⟩ := marks_of (hc 3 _ e rfl rfl)
  exact ⟨⟨s, x, y, l⟩, rfl⟩
end Go.Proofs.Tryd
end
