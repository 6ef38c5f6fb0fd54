/- Texts SdHm SdO SdZ SdR SdM SdN SdU SdV SdY LyM, joined; what is not needed is left out. -/
import Derived.Test.YtpbhikmlcaddmaaGreatMpe
import Derived.Test.YtpbhikmlcaddmaaGreatMgI
import Derived.Test.YtpbhikmlcaddmaaGreatProg
import Derived.Shelf.Lays
section
namespace Go.Proofs.Tryz
open Go Go.Vm
set_option maxRecDepth 20000
set_option maxHeartbeats 2000000
/-! IndexFunc and DeleteFunc by a function that has captured a map. -/
theorem xv_IndexSm (l : List Sg) (f kt et : Nat) (kd : TypeDesc) (es : List (D × D)) (p : Sg → Bool) (hn : l.length ≤ 1000000) (hf : ∀ g ∈ l, EvX Tryz.prog f [.d (sgD g), .ptr 1001 0] [(1002, .map kt et kd es), (1001, .var [.mp 1002] false)] (.d (.bool (p g))) [(1002, .map kt et kd es), (1001, .var [.mp 1002] false)]) :
    EvX Tryz.prog 27 [.own 1000 5 (l.map sgD).length, .fnv f [.box 1001]] [(1002, .map kt et kd es), (1001, .var [.mp 1002] false), (1000, .row 41 5 (l.map sgD) false)] (.d (.int .i64 (match l.findIdx? p with | some i => (i : Int) | none => -1))) [(1002, .map kt et kd es), (1001, .var [.mp 1002] false), (1000, .row 41 5 (l.map sgD) false)] := by
  have hlen : (l.map sgD).length = l.length := List.length_map _
  refine evx_of_awp tysOk mixed (fn := Tryz.f27) Tryz.func27 rfl rfl rfl ?_
  conv => whnf
  repeat' (first | ((with_reducible refine Split.of_true ?_); conv => whnf) | ((with_reducible refine Split.of_false ?_); conv => whnf) | ((with_reducible refine Split.neg ?_)) | ((with_reducible refine Split.is_true ?_ ?_); decide; conv => whnf) | ((with_reducible refine Split.is_false ?_ ?_); decide; conv => whnf) | ((with_reducible refine Split.nez (fun _ => ?_) (fun _ => ?_)) <;> conv => whnf) | ((with_reducible refine Split.eqz (fun _ => ?_) (fun _ => ?_)) <;> conv => whnf) | ((with_reducible refine Split.and ?_)) | ((with_reducible refine Split.or ?_)) | ((with_reducible refine Split.streq (fun _ => ?_) (fun _ => ?_)) <;> conv => whnf) | ((with_reducible refine Split.dec (fun _ => ?_) (fun _ => ?_)) <;> conv => whnf) | ((with_reducible refine Split.mk (fun _ => ?_) (fun _ => ?_)) <;> conv => whnf) | ((with_reducible refine NilK.mk (fun _ => ?_) ?_) <;> conv => whnf) | ((with_reducible refine AltK.l ?_); (conv => whnf); (with_reducible refine Need.mk ?_ ?_); (first | omega | (refine ⟨?_, ?_⟩ <;> simp <;> omega) | (simp; omega)); conv => whnf) | ((with_reducible refine Need.mk ?_ ?_); (first | omega | rfl | decide | (refine ⟨?_, ?_⟩ <;> simp <;> omega) | (simp; omega)); conv => whnf) | ((with_reducible refine Wr.quo ?_ ?_ ?_ ?_); omega; omega; omega; conv => whnf) | ((with_reducible refine Wr.inr ?_ ?_); (first | omega | (simp; omega)); conv => whnf) | ((with_reducible refine Wr.inu ?_ ?_); omega; conv => whnf) | (exfalso; first | omega | contradiction))
  refine LoopK.o2 (fun i : Nat => i ≤ l.length ∧ ∀ g ∈ l.take i, p g = false) (fun i => [(8, .d (.int .i64 i))]) (fun _ => []) (fun i => l.length - i) 0 (by simp) (by refine ⟨?_, ?_, rfl⟩ <;> (repeat' (first | exact True.intro | exact rfl | refine ⟨?_, ?_⟩ | (intro h; cases h; done) | (intro h; exact h) | exact map_snoc | (refine own_congr ?_; simp; done) | (refine int_congr ?_; (first | omega | (simp; omega))) | (simp; done)))) ?_
  rintro i ⟨hi, hp⟩
  have hn : (i : Int) < l.length → ∃ m, l[i]? = some m := fun h => some_of_lt (by omega)
  conv => whnf
  repeat' (first | ((with_reducible refine Split.of_true ?_); conv => whnf) | ((with_reducible refine Split.of_false ?_); conv => whnf) | ((with_reducible refine Split.neg ?_)) | ((with_reducible refine Split.is_true ?_ ?_); decide; conv => whnf) | ((with_reducible refine Split.is_false ?_ ?_); decide; conv => whnf) | ((with_reducible refine Split.nez (fun _ => ?_) (fun _ => ?_)) <;> conv => whnf) | ((with_reducible refine Split.eqz (fun _ => ?_) (fun _ => ?_)) <;> conv => whnf) | ((with_reducible refine Split.and ?_)) | ((with_reducible refine Split.or ?_)) | ((with_reducible refine Split.streq (fun _ => ?_) (fun _ => ?_)) <;> conv => whnf) | ((with_reducible refine Split.dec (fun _ => ?_) (fun _ => ?_)) <;> conv => whnf) | ((with_reducible refine Split.mk (fun _ => ?_) (fun _ => ?_)) <;> conv => whnf) | ((with_reducible refine NilK.mk (fun _ => ?_) ?_) <;> conv => whnf) | ((with_reducible refine AltK.l ?_); (conv => whnf); (with_reducible refine Need.mk ?_ ?_); (first | omega | (refine ⟨?_, ?_⟩ <;> simp <;> omega) | (simp; omega)); conv => whnf) | ((with_reducible refine Need.mk ?_ ?_); (first | omega | rfl | decide | (refine ⟨?_, ?_⟩ <;> simp <;> omega) | (simp; omega)); conv => whnf) | ((with_reducible refine Wr.quo ?_ ?_ ?_ ?_); omega; omega; omega; conv => whnf) | ((with_reducible refine Wr.inr ?_ ?_); (first | omega | (simp; omega)); conv => whnf) | ((with_reducible refine Wr.inu ?_ ?_); omega; conv => whnf) | (exfalso; first | omega | contradiction))
  · obtain ⟨g, hg⟩ := hn (by omega)
    have hf := hf g (List.mem_of_getElem? hg)
    conv => whnf
    repeat' (first | ((refine PickE.map i hg (by omega) ?_); conv => whnf) | ((with_reducible refine Split.of_true ?_); conv => whnf) | ((with_reducible refine Split.of_false ?_); conv => whnf) | ((with_reducible refine Split.neg ?_)) | ((with_reducible refine Split.is_true ?_ ?_); decide; conv => whnf) | ((with_reducible refine Split.is_false ?_ ?_); decide; conv => whnf) | ((with_reducible refine Split.nez (fun _ => ?_) (fun _ => ?_)) <;> conv => whnf) | ((with_reducible refine Split.eqz (fun _ => ?_) (fun _ => ?_)) <;> conv => whnf) | ((with_reducible refine Split.and ?_)) | ((with_reducible refine Split.or ?_)) | ((with_reducible refine Split.streq (fun _ => ?_) (fun _ => ?_)) <;> conv => whnf) | ((with_reducible refine Split.dec (fun _ => ?_) (fun _ => ?_)) <;> conv => whnf) | ((with_reducible refine Split.mk (fun _ => ?_) (fun _ => ?_)) <;> conv => whnf) | ((with_reducible refine NilK.mk (fun _ => ?_) ?_) <;> conv => whnf) | ((with_reducible refine AltK.l ?_); (conv => whnf); (with_reducible refine Need.mk ?_ ?_); (first | omega | (refine ⟨?_, ?_⟩ <;> simp <;> omega) | (simp; omega)); conv => whnf) | ((with_reducible refine Need.mk ?_ ?_); (first | omega | rfl | decide | (refine ⟨?_, ?_⟩ <;> simp <;> omega) | (simp; omega)); conv => whnf) | ((with_reducible refine Wr.quo ?_ ?_ ?_ ?_); omega; omega; omega; conv => whnf) | ((with_reducible refine Wr.inr ?_ ?_); (first | omega | (simp; omega)); conv => whnf) | ((with_reducible refine Wr.inu ?_ ?_); omega; conv => whnf) | (exfalso; first | omega | contradiction))
    refine AltK.r ?_
    conv => whnf
    refine CallX.mk _ _ hf rfl ?_
    conv => whnf
    refine Split.mk (fun hpg => ?_) (fun hpg => ?_)
    · conv => whnf
      repeat' (first | ((with_reducible refine Split.of_true ?_); conv => whnf) | ((with_reducible refine Split.of_false ?_); conv => whnf) | ((with_reducible refine Split.neg ?_)) | ((with_reducible refine Split.is_true ?_ ?_); decide; conv => whnf) | ((with_reducible refine Split.is_false ?_ ?_); decide; conv => whnf) | ((with_reducible refine Split.nez (fun _ => ?_) (fun _ => ?_)) <;> conv => whnf) | ((with_reducible refine Split.eqz (fun _ => ?_) (fun _ => ?_)) <;> conv => whnf) | ((with_reducible refine Split.and ?_)) | ((with_reducible refine Split.or ?_)) | ((with_reducible refine Split.streq (fun _ => ?_) (fun _ => ?_)) <;> conv => whnf) | ((with_reducible refine Split.dec (fun _ => ?_) (fun _ => ?_)) <;> conv => whnf) | ((with_reducible refine Split.mk (fun _ => ?_) (fun _ => ?_)) <;> conv => whnf) | ((with_reducible refine NilK.mk (fun _ => ?_) ?_) <;> conv => whnf) | ((with_reducible refine AltK.l ?_); (conv => whnf); (with_reducible refine Need.mk ?_ ?_); (first | omega | (refine ⟨?_, ?_⟩ <;> simp <;> omega) | (simp; omega)); conv => whnf) | ((with_reducible refine Need.mk ?_ ?_); (first | omega | rfl | decide | (refine ⟨?_, ?_⟩ <;> simp <;> omega) | (simp; omega)); conv => whnf) | ((with_reducible refine Wr.quo ?_ ?_ ?_ ?_); omega; omega; omega; conv => whnf) | ((with_reducible refine Wr.inr ?_ ?_); (first | omega | (simp; omega)); conv => whnf) | ((with_reducible refine Wr.inu ?_ ?_); omega; conv => whnf) | (exfalso; first | omega | contradiction))
      have e : l.findIdx? p = some i := by
        rw [List.findIdx?_eq_some_iff_getElem]
        refine ⟨by omega, by rw [(List.getElem?_eq_some_iff.1 hg).2]; exact hpg, fun j hj => ?_⟩
        have := hp l[j] (List.mem_take_iff_getElem.2 ⟨j, by omega, rfl⟩)
        rw [this]; decide
      rw [e]
      exact ⟨⟨[], (by refine ⟨?_, ?_, rfl⟩ <;> (repeat' (first | exact True.intro | exact rfl | refine ⟨?_, ?_⟩ | (intro h; cases h; done) | (intro h; exact h) | exact map_snoc | (refine own_congr ?_; simp; done) | (refine int_congr ?_; (first | omega | (simp; omega))) | (simp; done))))⟩, rfl⟩
    · conv => whnf
      conv => whnf
      repeat' (first | ((with_reducible refine Split.of_true ?_); conv => whnf) | ((with_reducible refine Split.of_false ?_); conv => whnf) | ((with_reducible refine Split.neg ?_)) | ((with_reducible refine Split.is_true ?_ ?_); decide; conv => whnf) | ((with_reducible refine Split.is_false ?_ ?_); decide; conv => whnf) | ((with_reducible refine Split.nez (fun _ => ?_) (fun _ => ?_)) <;> conv => whnf) | ((with_reducible refine Split.eqz (fun _ => ?_) (fun _ => ?_)) <;> conv => whnf) | ((with_reducible refine Split.and ?_)) | ((with_reducible refine Split.or ?_)) | ((with_reducible refine Split.streq (fun _ => ?_) (fun _ => ?_)) <;> conv => whnf) | ((with_reducible refine Split.dec (fun _ => ?_) (fun _ => ?_)) <;> conv => whnf) | ((with_reducible refine Split.mk (fun _ => ?_) (fun _ => ?_)) <;> conv => whnf) | ((with_reducible refine NilK.mk (fun _ => ?_) ?_) <;> conv => whnf) | ((with_reducible refine AltK.l ?_); (conv => whnf); (with_reducible refine Need.mk ?_ ?_); (first | omega | (refine ⟨?_, ?_⟩ <;> simp <;> omega) | (simp; omega)); conv => whnf) | ((with_reducible refine Need.mk ?_ ?_); (first | omega | rfl | decide | (refine ⟨?_, ?_⟩ <;> simp <;> omega) | (simp; omega)); conv => whnf) | ((with_reducible refine Wr.quo ?_ ?_ ?_ ?_); omega; omega; omega; conv => whnf) | ((with_reducible refine Wr.inr ?_ ?_); (first | omega | (simp; omega)); conv => whnf) | ((with_reducible refine Wr.inu ?_ ?_); omega; conv => whnf) | (exfalso; first | omega | contradiction))
      refine Again.au (i + 1) ⟨by omega, fun x hx => ?_⟩ (by omega) (by refine ⟨?_, ?_, rfl⟩ <;> (repeat' (first | exact True.intro | exact rfl | refine ⟨?_, ?_⟩ | (intro h; cases h; done) | (intro h; exact h) | exact map_snoc | (refine own_congr ?_; simp; done) | (refine int_congr ?_; (first | omega | (simp; omega))) | (simp; done))))
      rw [take_snoc hg] at hx
      rcases List.mem_append.1 hx with hx | hx
      · exact hp x hx
      · rw [List.mem_singleton.1 hx]; exact hpg
  · have e : l.findIdx? p = none := by
      rw [List.findIdx?_eq_none_iff]
      intro x hx
      rw [← List.take_of_length_le (show l.length ≤ i by omega)] at hx
      exact hp x hx
    rw [e]
    exact ⟨⟨[], (by refine ⟨?_, ?_, rfl⟩ <;> (repeat' (first | exact True.intro | exact rfl | refine ⟨?_, ?_⟩ | (intro h; cases h; done) | (intro h; exact h) | exact map_snoc | (refine own_congr ?_; simp; done) | (refine int_congr ?_; (first | omega | (simp; omega))) | (simp; done))))⟩, rfl⟩
theorem xv_delSmN (f kt et : Nat) (kd : TypeDesc) (es : List (D × D)) :
    EvX Tryz.prog 34 [.d (.sl 5 []), .fnv f [.box 1001]] [(1002, .map kt et kd es), (1001, .var [.mp 1002] false)] (.d (.sl 5 [])) [(1002, .map kt et kd es), (1001, .var [.mp 1002] false)] := by
  have h : EvX Tryz.prog 27 [.d (.sl 5 []), .fnv f [.box 1001]] [(1002, .map kt et kd es), (1001, .var [.mp 1002] false)] (.d (iD (-1))) [(1002, .map kt et kd es), (1001, .var [.mp 1002] false)] := by
    refine evx_of_awp tysOk mixed (fn := Tryz.f27) Tryz.func27 rfl rfl rfl ?_
    conv => whnf
    repeat' (first | ((refine LoopK.unr 1 ?_); conv => whnf) | ((with_reducible refine Split.of_true ?_); conv => whnf) | ((with_reducible refine Split.of_false ?_); conv => whnf) | ((with_reducible refine Split.neg ?_)) | ((with_reducible refine Split.is_true ?_ ?_); decide; conv => whnf) | ((with_reducible refine Split.is_false ?_ ?_); decide; conv => whnf) | ((with_reducible refine Split.nez (fun _ => ?_) (fun _ => ?_)) <;> conv => whnf) | ((with_reducible refine Split.eqz (fun _ => ?_) (fun _ => ?_)) <;> conv => whnf) | ((with_reducible refine Split.and ?_)) | ((with_reducible refine Split.or ?_)) | ((with_reducible refine Split.streq (fun _ => ?_) (fun _ => ?_)) <;> conv => whnf) | ((with_reducible refine Split.dec (fun _ => ?_) (fun _ => ?_)) <;> conv => whnf) | ((with_reducible refine Split.mk (fun _ => ?_) (fun _ => ?_)) <;> conv => whnf) | ((with_reducible refine NilK.mk (fun _ => ?_) ?_) <;> conv => whnf) | ((with_reducible refine AltK.l ?_); (conv => whnf); (with_reducible refine Need.mk ?_ ?_); (first | omega | (refine ⟨?_, ?_⟩ <;> simp <;> omega) | (simp; omega)); conv => whnf) | ((with_reducible refine Need.mk ?_ ?_); (first | omega | rfl | decide | (refine ⟨?_, ?_⟩ <;> simp <;> omega) | (simp; omega)); conv => whnf) | ((with_reducible refine Wr.quo ?_ ?_ ?_ ?_); omega; omega; omega; conv => whnf) | ((with_reducible refine Wr.inr ?_ ?_); (first | omega | (simp; omega)); conv => whnf) | ((with_reducible refine Wr.inu ?_ ?_); omega; conv => whnf) | (exfalso; first | omega | contradiction))
    exact ⟨⟨[], (by refine ⟨?_, ?_, rfl⟩ <;> (repeat' (first | exact True.intro | exact rfl | refine ⟨?_, ?_⟩ | (intro h; cases h; done) | (intro h; exact h) | exact map_snoc | (refine own_congr ?_; simp; done) | (refine int_congr ?_; (first | omega | (simp; omega))) | (simp; done))))⟩, rfl⟩
  refine evx_of_awp tysOk mixed (fn := Tryz.f34) Tryz.func34 rfl rfl rfl ?_
  conv => whnf
  repeat' (first | ((with_reducible refine Split.of_true ?_); conv => whnf) | ((with_reducible refine Split.of_false ?_); conv => whnf) | ((with_reducible refine Split.neg ?_)) | ((with_reducible refine Split.is_true ?_ ?_); decide; conv => whnf) | ((with_reducible refine Split.is_false ?_ ?_); decide; conv => whnf) | ((with_reducible refine Split.nez (fun _ => ?_) (fun _ => ?_)) <;> conv => whnf) | ((with_reducible refine Split.eqz (fun _ => ?_) (fun _ => ?_)) <;> conv => whnf) | ((with_reducible refine Split.and ?_)) | ((with_reducible refine Split.or ?_)) | ((with_reducible refine Split.streq (fun _ => ?_) (fun _ => ?_)) <;> conv => whnf) | ((with_reducible refine Split.dec (fun _ => ?_) (fun _ => ?_)) <;> conv => whnf) | ((with_reducible refine Split.mk (fun _ => ?_) (fun _ => ?_)) <;> conv => whnf) | ((with_reducible refine NilK.mk (fun _ => ?_) ?_) <;> conv => whnf) | ((with_reducible refine AltK.l ?_); (conv => whnf); (with_reducible refine Need.mk ?_ ?_); (first | omega | (refine ⟨?_, ?_⟩ <;> simp <;> omega) | (simp; omega)); conv => whnf) | ((with_reducible refine Need.mk ?_ ?_); (first | omega | rfl | decide | (refine ⟨?_, ?_⟩ <;> simp <;> omega) | (simp; omega)); conv => whnf) | ((with_reducible refine Wr.quo ?_ ?_ ?_ ?_); omega; omega; omega; conv => whnf) | ((with_reducible refine Wr.inr ?_ ?_); (first | omega | (simp; omega)); conv => whnf) | ((with_reducible refine Wr.inu ?_ ?_); omega; conv => whnf) | ((with_reducible refine AltK.r ?_); (conv => whnf); (first | (refine CallX.mk _ _ (h) rfl ?_)); conv => whnf) | (exfalso; first | omega | contradiction))
  exact ⟨⟨[], (by refine ⟨?_, ?_, rfl⟩ <;> (repeat' (first | exact True.intro | exact rfl | refine ⟨?_, ?_⟩ | (intro h; cases h; done) | (intro h; exact h) | exact map_snoc | (refine own_congr ?_; simp; done) | (refine int_congr ?_; (first | omega | (simp; omega))) | (simp; done))))⟩, rfl⟩
theorem xv_delSm0 (l : List Sg) (f kt et : Nat) (kd : TypeDesc) (es : List (D × D)) (p : Sg → Bool) (hn : l.length ≤ 1000000) (hf : ∀ g ∈ l, EvX Tryz.prog f [.d (sgD g), .ptr 1001 0] [(1002, .map kt et kd es), (1001, .var [.mp 1002] false)] (.d (.bool (p g))) [(1002, .map kt et kd es), (1001, .var [.mp 1002] false)]) (h0 : l.findIdx? p = none) :
    EvX Tryz.prog 34 [.own 1000 5 (l.map sgD).length, .fnv f [.box 1001]] [(1002, .map kt et kd es), (1001, .var [.mp 1002] false), (1000, .row 41 5 (l.map sgD) false)] (.own 1000 5 (l.map sgD).length) [(1002, .map kt et kd es), (1001, .var [.mp 1002] false), (1000, .row 41 5 (l.map sgD) false)] := by
  have hlen : (l.map sgD).length = l.length := List.length_map _
  have h := xv_IndexSm l f kt et kd es p hn hf
  rw [h0] at h
  refine evx_of_awp tysOk mixed (fn := Tryz.f34) Tryz.func34 rfl rfl rfl ?_
  conv => whnf
  repeat' (first | ((with_reducible refine Split.of_true ?_); conv => whnf) | ((with_reducible refine Split.of_false ?_); conv => whnf) | ((with_reducible refine Split.neg ?_)) | ((with_reducible refine Split.is_true ?_ ?_); decide; conv => whnf) | ((with_reducible refine Split.is_false ?_ ?_); decide; conv => whnf) | ((with_reducible refine Split.nez (fun _ => ?_) (fun _ => ?_)) <;> conv => whnf) | ((with_reducible refine Split.eqz (fun _ => ?_) (fun _ => ?_)) <;> conv => whnf) | ((with_reducible refine Split.and ?_)) | ((with_reducible refine Split.or ?_)) | ((with_reducible refine Split.streq (fun _ => ?_) (fun _ => ?_)) <;> conv => whnf) | ((with_reducible refine Split.dec (fun _ => ?_) (fun _ => ?_)) <;> conv => whnf) | ((with_reducible refine Split.mk (fun _ => ?_) (fun _ => ?_)) <;> conv => whnf) | ((with_reducible refine NilK.mk (fun _ => ?_) ?_) <;> conv => whnf) | ((with_reducible refine AltK.l ?_); (conv => whnf); (with_reducible refine Need.mk ?_ ?_); (first | omega | (refine ⟨?_, ?_⟩ <;> simp <;> omega) | (simp; omega)); conv => whnf) | ((with_reducible refine Need.mk ?_ ?_); (first | omega | rfl | decide | (refine ⟨?_, ?_⟩ <;> simp <;> omega) | (simp; omega)); conv => whnf) | ((with_reducible refine Wr.quo ?_ ?_ ?_ ?_); omega; omega; omega; conv => whnf) | ((with_reducible refine Wr.inr ?_ ?_); (first | omega | (simp; omega)); conv => whnf) | ((with_reducible refine Wr.inu ?_ ?_); omega; conv => whnf) | ((with_reducible refine AltK.r ?_); (conv => whnf); (first | (refine CallX.mk _ _ (h) rfl ?_)); conv => whnf) | (exfalso; first | omega | contradiction))
  exact ⟨⟨[], (by refine ⟨?_, ?_, rfl⟩ <;> (repeat' (first | exact True.intro | exact rfl | refine ⟨?_, ?_⟩ | (intro h; cases h; done) | (intro h; exact h) | exact map_snoc | (refine own_congr ?_; simp; done) | (refine int_congr ?_; (first | omega | (simp; omega))) | (simp; done))))⟩, rfl⟩
theorem xv_delSm (l : List Sg) (f kt et : Nat) (kd : TypeDesc) (es : List (D × D)) (p : Sg → Bool) (hn : l.length ≤ 1000000) (hf : ∀ g ∈ l, EvX Tryz.prog f [.d (sgD g), .ptr 1001 0] [(1002, .map kt et kd es), (1001, .var [.mp 1002] false)] (.d (.bool (p g))) [(1002, .map kt et kd es), (1001, .var [.mp 1002] false)]) {i0 : Nat} (h0 : l.findIdx? p = some i0) :
    EvX Tryz.prog 34 [.own 1000 5 (l.map sgD).length, .fnv f [.box 1001]] [(1002, .map kt et kd es), (1001, .var [.mp 1002] false), (1000, .row 41 5 (l.map sgD) false)] (.own 9 5 ((l.filter fun x => !p x).map sgD).length) [(1000, .gone), (1002, .map kt et kd es), (1001, .var [.mp 1002] false), (9, .row 41 5 ((l.filter fun x => !p x).map sgD) false)] := by
  have hlen : (l.map sgD).length = l.length := List.length_map _
  have h := xv_IndexSm l f kt et kd es p hn hf
  obtain ⟨k0, hi0⟩ := kp_first h0
  rw [h0] at h
  simp only at h
  have hk0 : (kpL p l (i0 + 1)).length = i0 := by rw [k0, List.length_take]; omega
  refine evx_of_awp tysOk mixed (fn := Tryz.f34) Tryz.func34 rfl rfl rfl ?_
  conv => whnf
  repeat' (first | ((with_reducible refine Split.of_true ?_); conv => whnf) | ((with_reducible refine Split.of_false ?_); conv => whnf) | ((with_reducible refine Split.neg ?_)) | ((with_reducible refine Split.is_true ?_ ?_); decide; conv => whnf) | ((with_reducible refine Split.is_false ?_ ?_); decide; conv => whnf) | ((with_reducible refine Split.nez (fun _ => ?_) (fun _ => ?_)) <;> conv => whnf) | ((with_reducible refine Split.eqz (fun _ => ?_) (fun _ => ?_)) <;> conv => whnf) | ((with_reducible refine Split.and ?_)) | ((with_reducible refine Split.or ?_)) | ((with_reducible refine Split.streq (fun _ => ?_) (fun _ => ?_)) <;> conv => whnf) | ((with_reducible refine Split.dec (fun _ => ?_) (fun _ => ?_)) <;> conv => whnf) | ((with_reducible refine Split.mk (fun _ => ?_) (fun _ => ?_)) <;> conv => whnf) | ((with_reducible refine NilK.mk (fun _ => ?_) ?_) <;> conv => whnf) | ((with_reducible refine AltK.l ?_); (conv => whnf); (with_reducible refine Need.mk ?_ ?_); (first | omega | (refine ⟨?_, ?_⟩ <;> simp <;> omega) | (simp; omega)); conv => whnf) | ((with_reducible refine Need.mk ?_ ?_); (first | omega | rfl | decide | (refine ⟨?_, ?_⟩ <;> simp <;> omega) | (simp; omega)); conv => whnf) | ((with_reducible refine Wr.quo ?_ ?_ ?_ ?_); omega; omega; omega; conv => whnf) | ((with_reducible refine Wr.inr ?_ ?_); (first | omega | (simp; omega)); conv => whnf) | ((with_reducible refine Wr.inu ?_ ?_); omega; conv => whnf) | ((with_reducible refine AltK.r ?_); (conv => whnf); (first | (refine CallX.mk _ _ (h) rfl ?_)); conv => whnf) | (exfalso; first | omega | contradiction))
  refine LoopK.o2 (fun x : Nat × List Sg => i0 + 1 ≤ x.1 ∧ x.1 ≤ l.length ∧ x.2.length = l.length ∧ (∀ k, x.1 ≤ k → x.2[k]? = l[k]?) ∧ x.2.take (kpL p l x.1).length = kpL p l x.1 ∧ (kpL p l x.1).length < x.1)
    (fun x => [(5, .d (.int .i64 (kpL p l x.1).length)), (6, .d (.int .i64 x.1))]) (fun x => [(1000, .row 41 5 (x.2.map sgD) false)]) (fun x => l.length - x.1) (i0 + 1, l) ⟨by omega, by omega, rfl, fun _ _ => rfl, by rw [hk0, k0], by rw [hk0]; exact Nat.lt_succ_self _⟩ (by refine ⟨?_, ?_, rfl⟩ <;> (repeat' (first | exact True.intro | exact rfl | refine ⟨?_, ?_⟩ | (intro h; cases h; done) | (intro h; exact h) | exact map_snoc | (refine own_congr ?_; simp; done) | (refine int_congr ?_; (first | omega | (simp; omega))) | (simp; done) | ((first | refine own_congr ?_ | refine int_congr ?_ | skip); simp [hk0]; done) | ((first | refine own_congr ?_ | refine int_congr ?_); simp [hk0]; omega) | (show @Eq (List Go.Vm.D) _ []; simp [hk0]; done) | (simp [D.cells, hk0]; done)))) ?_
  rintro ⟨j, m⟩ ⟨h1, h2, h3, h4, h5, h6⟩
  dsimp only at h1 h2 h3 h4 h5 h6 ⊢
  have em : (m.map sgD).length = m.length := List.length_map _
  have hnx : (j : Int) < l.length → ∃ x, l[j]? = some x := fun h => some_of_lt (by omega)
  have e6 := kp_le p l j
  conv => whnf
  repeat' (first | ((with_reducible refine Split.of_true ?_); conv => whnf) | ((with_reducible refine Split.of_false ?_); conv => whnf) | ((with_reducible refine Split.neg ?_)) | ((with_reducible refine Split.is_true ?_ ?_); decide; conv => whnf) | ((with_reducible refine Split.is_false ?_ ?_); decide; conv => whnf) | ((with_reducible refine Split.nez (fun _ => ?_) (fun _ => ?_)) <;> conv => whnf) | ((with_reducible refine Split.eqz (fun _ => ?_) (fun _ => ?_)) <;> conv => whnf) | ((with_reducible refine Split.and ?_)) | ((with_reducible refine Split.or ?_)) | ((with_reducible refine Split.streq (fun _ => ?_) (fun _ => ?_)) <;> conv => whnf) | ((with_reducible refine Split.dec (fun _ => ?_) (fun _ => ?_)) <;> conv => whnf) | ((with_reducible refine Split.mk (fun _ => ?_) (fun _ => ?_)) <;> conv => whnf) | ((with_reducible refine NilK.mk (fun _ => ?_) ?_) <;> conv => whnf) | ((with_reducible refine Need.mk ?_ ?_); (first | omega | rfl | decide | (refine ⟨?_, ?_⟩ <;> simp <;> omega) | (simp; omega)); conv => whnf) | ((with_reducible refine Wr.quo ?_ ?_ ?_ ?_); omega; omega; omega; conv => whnf) | ((with_reducible refine Wr.inr ?_ ?_); (first | omega | (simp; omega)); conv => whnf) | ((with_reducible refine Wr.inu ?_ ?_); omega; conv => whnf) | (exfalso; first | omega | contradiction))
  · obtain ⟨x, hx⟩ := hnx (by omega)
    have hxm : m[j]? = some x := (h4 j (Nat.le_refl _)).trans hx
    have hp := hf x (List.mem_of_getElem? hx)
    have hs := kp_snoc (p := p) hx
    cases hpx : p x with
    | true =>
      rw [if_pos hpx] at hs
      rw [hpx] at hp
      conv => whnf
      repeat' (first | ((refine PickE.map j hxm (by omega) ?_); conv => whnf) | ((with_reducible refine Split.of_true ?_); conv => whnf) | ((with_reducible refine Split.of_false ?_); conv => whnf) | ((with_reducible refine Split.neg ?_)) | ((with_reducible refine Split.is_true ?_ ?_); decide; conv => whnf) | ((with_reducible refine Split.is_false ?_ ?_); decide; conv => whnf) | ((with_reducible refine Split.nez (fun _ => ?_) (fun _ => ?_)) <;> conv => whnf) | ((with_reducible refine Split.eqz (fun _ => ?_) (fun _ => ?_)) <;> conv => whnf) | ((with_reducible refine Split.and ?_)) | ((with_reducible refine Split.or ?_)) | ((with_reducible refine Split.streq (fun _ => ?_) (fun _ => ?_)) <;> conv => whnf) | ((with_reducible refine Split.dec (fun _ => ?_) (fun _ => ?_)) <;> conv => whnf) | ((with_reducible refine Split.mk (fun _ => ?_) (fun _ => ?_)) <;> conv => whnf) | ((with_reducible refine NilK.mk (fun _ => ?_) ?_) <;> conv => whnf) | ((with_reducible refine AltK.l ?_); (conv => whnf); (with_reducible refine Need.mk ?_ ?_); (first | omega | (refine ⟨?_, ?_⟩ <;> simp <;> omega) | (simp; omega)); conv => whnf) | ((with_reducible refine Need.mk ?_ ?_); (first | omega | rfl | decide | (refine ⟨?_, ?_⟩ <;> simp <;> omega) | (simp; omega)); conv => whnf) | ((with_reducible refine Wr.quo ?_ ?_ ?_ ?_); omega; omega; omega; conv => whnf) | ((with_reducible refine Wr.inr ?_ ?_); (first | omega | (simp; omega)); conv => whnf) | ((with_reducible refine Wr.inu ?_ ?_); omega; conv => whnf) | ((with_reducible refine AltK.r ?_); (conv => whnf); (first | (refine CallX.mk _ _ (hp) rfl ?_)); conv => whnf) | (exfalso; first | omega | contradiction))
      refine Again.au (j + 1, m) ⟨by omega, by omega, h3, fun k hk => h4 k (by omega), by rw [hs]; exact h5, by rw [hs]; omega⟩ (by dsimp only; omega) (by refine ⟨?_, ?_, rfl⟩ <;> (repeat' (first | exact True.intro | exact rfl | refine ⟨?_, ?_⟩ | (intro h; cases h; done) | (intro h; exact h) | exact map_snoc | (refine own_congr ?_; simp; done) | (refine int_congr ?_; (first | omega | (simp; omega))) | (simp; done) | ((first | refine own_congr ?_ | refine int_congr ?_ | skip); simp [hs]; done) | ((first | refine own_congr ?_ | refine int_congr ?_); simp [hs]; omega) | (show @Eq (List Go.Vm.D) _ []; simp [hs]; done) | (simp [D.cells, hs]; done))))
    | false =>
      rw [hpx, if_neg (by decide)] at hs
      rw [hpx] at hp
      obtain ⟨y, hy⟩ := some_of_lt (l := m) (i := (kpL p l j).length) (by omega)
      conv => whnf
      repeat' (first | ((refine PickE.map (kpL p l j).length hy (by omega) ?_); conv => whnf) | ((refine PickE.map j hxm (by omega) ?_); conv => whnf) | ((with_reducible refine Split.of_true ?_); conv => whnf) | ((with_reducible refine Split.of_false ?_); conv => whnf) | ((with_reducible refine Split.neg ?_)) | ((with_reducible refine Split.is_true ?_ ?_); decide; conv => whnf) | ((with_reducible refine Split.is_false ?_ ?_); decide; conv => whnf) | ((with_reducible refine Split.nez (fun _ => ?_) (fun _ => ?_)) <;> conv => whnf) | ((with_reducible refine Split.eqz (fun _ => ?_) (fun _ => ?_)) <;> conv => whnf) | ((with_reducible refine Split.and ?_)) | ((with_reducible refine Split.or ?_)) | ((with_reducible refine Split.streq (fun _ => ?_) (fun _ => ?_)) <;> conv => whnf) | ((with_reducible refine Split.dec (fun _ => ?_) (fun _ => ?_)) <;> conv => whnf) | ((with_reducible refine Split.mk (fun _ => ?_) (fun _ => ?_)) <;> conv => whnf) | ((with_reducible refine NilK.mk (fun _ => ?_) ?_) <;> conv => whnf) | ((with_reducible refine AltK.l ?_); (conv => whnf); (with_reducible refine Need.mk ?_ ?_); (first | omega | (refine ⟨?_, ?_⟩ <;> simp <;> omega) | (simp; omega)); conv => whnf) | ((with_reducible refine Need.mk ?_ ?_); (first | omega | rfl | decide | (refine ⟨?_, ?_⟩ <;> simp <;> omega) | (simp; omega)); conv => whnf) | ((with_reducible refine Wr.quo ?_ ?_ ?_ ?_); omega; omega; omega; conv => whnf) | ((with_reducible refine Wr.inr ?_ ?_); (first | omega | (simp; omega)); conv => whnf) | ((with_reducible refine Wr.inu ?_ ?_); omega; conv => whnf) | ((with_reducible refine AltK.r ?_); (conv => whnf); (first | (refine CallX.mk _ _ (hp) rfl ?_)); conv => whnf) | (exfalso; first | omega | contradiction))
      refine Again.au (j + 1, m.set (kpL p l j).length x) ⟨by omega, by omega, by rw [List.length_set]; exact h3, fun k hk => by rw [List.getElem?_set_ne (by omega)]; exact h4 k (by omega), ?_, by rw [hs, List.length_append, List.length_singleton]; omega⟩ (by dsimp only; omega) (by refine ⟨?_, ?_, rfl⟩ <;> (repeat' (first | exact True.intro | exact rfl | refine ⟨?_, ?_⟩ | (intro h; cases h; done) | (intro h; exact h) | exact map_snoc | (refine own_congr ?_; simp; done) | (refine int_congr ?_; (first | omega | (simp; omega))) | (simp; done) | ((first | refine own_congr ?_ | refine int_congr ?_ | skip); simp [hs,sgD,List.map_set]; done) | ((first | refine own_congr ?_ | refine int_congr ?_); simp [hs,sgD,List.map_set]; omega) | (show @Eq (List Go.Vm.D) _ []; simp [hs,sgD,List.map_set]; done) | (simp [D.cells, hs,sgD,List.map_set]; done))))
      rw [hs, List.length_append, List.length_singleton, ← take_set_snoc (by omega), h5]
  · have ej : j = l.length := by omega
    have ek : kpL p l j = l.filter fun x => !p x := by rw [ej, kpL, List.take_length]
    have h5' : (m.map sgD).take (kpL p l j).length = (kpL p l j).map sgD := by rw [← List.map_take, h5]
    refine AltK.r (AltK.l ?_)
    conv => whnf
    conv => whnf
    repeat' (first | ((with_reducible refine Split.of_true ?_); conv => whnf) | ((with_reducible refine Split.of_false ?_); conv => whnf) | ((with_reducible refine Split.neg ?_)) | ((with_reducible refine Split.is_true ?_ ?_); decide; conv => whnf) | ((with_reducible refine Split.is_false ?_ ?_); decide; conv => whnf) | ((with_reducible refine Split.nez (fun _ => ?_) (fun _ => ?_)) <;> conv => whnf) | ((with_reducible refine Split.eqz (fun _ => ?_) (fun _ => ?_)) <;> conv => whnf) | ((with_reducible refine Split.and ?_)) | ((with_reducible refine Split.or ?_)) | ((with_reducible refine Split.streq (fun _ => ?_) (fun _ => ?_)) <;> conv => whnf) | ((with_reducible refine Split.dec (fun _ => ?_) (fun _ => ?_)) <;> conv => whnf) | ((with_reducible refine Split.mk (fun _ => ?_) (fun _ => ?_)) <;> conv => whnf) | ((with_reducible refine NilK.mk (fun _ => ?_) ?_) <;> conv => whnf) | ((with_reducible refine Need.mk ?_ ?_); (first | omega | rfl | decide | (refine ⟨?_, ?_⟩ <;> simp <;> omega) | (simp; omega)); conv => whnf) | ((with_reducible refine Wr.quo ?_ ?_ ?_ ?_); omega; omega; omega; conv => whnf) | ((with_reducible refine Wr.inr ?_ ?_); (first | omega | (simp; omega)); conv => whnf) | ((with_reducible refine Wr.inu ?_ ?_); omega; conv => whnf) | (exfalso; first | omega | contradiction))
    refine AltK.r (AltK.r ?_)
    conv => whnf
    conv => whnf
    repeat' (first | ((with_reducible refine Split.of_true ?_); conv => whnf) | ((with_reducible refine Split.of_false ?_); conv => whnf) | ((with_reducible refine Split.neg ?_)) | ((with_reducible refine Split.is_true ?_ ?_); decide; conv => whnf) | ((with_reducible refine Split.is_false ?_ ?_); decide; conv => whnf) | ((with_reducible refine Split.nez (fun _ => ?_) (fun _ => ?_)) <;> conv => whnf) | ((with_reducible refine Split.eqz (fun _ => ?_) (fun _ => ?_)) <;> conv => whnf) | ((with_reducible refine Split.and ?_)) | ((with_reducible refine Split.or ?_)) | ((with_reducible refine Split.streq (fun _ => ?_) (fun _ => ?_)) <;> conv => whnf) | ((with_reducible refine Split.dec (fun _ => ?_) (fun _ => ?_)) <;> conv => whnf) | ((with_reducible refine Split.mk (fun _ => ?_) (fun _ => ?_)) <;> conv => whnf) | ((with_reducible refine NilK.mk (fun _ => ?_) ?_) <;> conv => whnf) | ((with_reducible refine Need.mk ?_ ?_); (first | omega | rfl | decide | (refine ⟨?_, ?_⟩ <;> simp <;> omega) | (simp; omega)); conv => whnf) | ((with_reducible refine Wr.quo ?_ ?_ ?_ ?_); omega; omega; omega; conv => whnf) | ((with_reducible refine Wr.inr ?_ ?_); (first | omega | (simp; omega)); conv => whnf) | ((with_reducible refine Wr.inu ?_ ?_); omega; conv => whnf) | (exfalso; first | omega | contradiction))
    rw [← ek]
    exact ⟨⟨[(9, some 41)], (by refine ⟨?_, ?_, rfl⟩ <;> (repeat' (first | exact True.intro | exact rfl | refine ⟨?_, ?_⟩ | (intro h; cases h; done) | (intro h; exact h) | exact map_snoc | (refine own_congr ?_; simp; done) | (refine int_congr ?_; (first | omega | (simp; omega))) | (simp; done) | ((first | refine own_congr ?_ | refine int_congr ?_ | skip); simp [h5']; done) | ((first | refine own_congr ?_ | refine int_congr ?_); simp [h5']; omega) | (show @Eq (List Go.Vm.D) _ []; simp [h5']; done) | (simp [D.cells, h5']; done))))⟩, rfl⟩
end Go.Proofs.Tryz
end

section
namespace Go.Proofs.Tryz
open Go Go.Vm Go.Sort
set_option maxRecDepth 20000
set_option maxHeartbeats 4000000
/-! Sheets by numbers; kept soundings. -/
def byN (l : List Sg) : List (D × D) := l.map fun s => (iD s.n, sgD s)
theorem mget_byN (k : Int) : ∀ l : List Sg, NoTwo l → mget (byN l) (iD k) = (l.find? fun s => s.n == k).map sgD
  | [], _ => rfl
  | a :: r, hu => by
    have ih := mget_byN k r (List.pairwise_cons.1 hu).2
    simp only [byN, List.map_cons] at ih ⊢
    rw [mget, ih, List.find?_cons]
    by_cases h : a.n = k
    · simp [keyEq, iD, h]
    · have h2 : (a.n == k) = false := by simpa using h
      simp [keyEq, iD, Ne.symm h, h2]
theorem byN_snoc {l : List Sg} {i : Nat} {g : Sg} (hu : NoTwo l) (hg : l[i]? = some g) : mput (byN (l.take i)) (iD g.n) (sgD g) = byN (l.take (i + 1)) := by
  have hu1 : NoTwo (l.take i ++ [g]) := by rw [← take_snoc hg]; exact hu.sublist (List.take_sublist _ _)
  have h0 : mget (byN (l.take i)) (iD g.n) = none := by
    rw [mget_byN _ _ (List.pairwise_append.1 hu1).1]
    have : (l.take i).find? (fun s => s.n == g.n) = none := by
      rw [List.find?_eq_none]
      intro x hx
      have := (List.pairwise_append.1 hu1).2.2 x hx g (by simp)
      simpa using this
    rw [this]; rfl
  rw [mput_new h0, take_snoc hg]
  simp [byN]
theorem xv_byNumber (l : List Sg) (hu : NoTwo l) (hl : l.length ≤ 1000000) : EvX Tryz.prog 33 [.d (.sl 5 (l.map sgD))] [] (.mp 9) [(9, .map 3 41 (.int .i64) (byN l))] := by
  have hlen : (l.map sgD).length = l.length := List.length_map _
  refine evx_of_awp tysOk mixed (fn := Tryz.f33) Tryz.func33 rfl rfl rfl ?_
  conv => whnf
  repeat' (first | ((with_reducible refine Split.of_true ?_); conv => whnf) | ((with_reducible refine Split.of_false ?_); conv => whnf) | ((with_reducible refine Split.neg ?_)) | ((with_reducible refine Split.is_true ?_ ?_); decide; conv => whnf) | ((with_reducible refine Split.is_false ?_ ?_); decide; conv => whnf) | ((with_reducible refine Split.nez (fun _ => ?_) (fun _ => ?_)) <;> conv => whnf) | ((with_reducible refine Split.eqz (fun _ => ?_) (fun _ => ?_)) <;> conv => whnf) | ((with_reducible refine Split.and ?_)) | ((with_reducible refine Split.or ?_)) | ((with_reducible refine Split.streq (fun _ => ?_) (fun _ => ?_)) <;> conv => whnf) | ((with_reducible refine Split.dec (fun _ => ?_) (fun _ => ?_)) <;> conv => whnf) | ((with_reducible refine Split.mk (fun _ => ?_) (fun _ => ?_)) <;> conv => whnf) | ((with_reducible refine NilK.mk (fun _ => ?_) ?_) <;> conv => whnf) | ((with_reducible refine AltK.l ?_); (conv => whnf); (with_reducible refine Need.mk ?_ ?_); (first | omega | (refine ⟨?_, ?_⟩ <;> simp <;> omega) | (simp; omega)); conv => whnf) | ((with_reducible refine Need.mk ?_ ?_); (first | omega | rfl | decide | (refine ⟨?_, ?_⟩ <;> simp <;> omega) | (simp; omega)); conv => whnf) | ((with_reducible refine Wr.quo ?_ ?_ ?_ ?_); omega; omega; omega; conv => whnf) | ((with_reducible refine Wr.inr ?_ ?_); (first | omega | (simp; omega)); conv => whnf) | ((with_reducible refine Wr.inu ?_ ?_); omega; conv => whnf) | (exfalso; first | omega | contradiction))
  refine LoopK.o2 (fun i : Nat => i ≤ l.length) (fun i => [(9, .d (.int .i64 i))]) (fun i => [(6, .map 3 41 (.int .i64) (byN (l.take i)))]) (fun i => l.length - i) 0 (by simp) (by refine ⟨?_, ?_, rfl⟩ <;> (repeat' (first | exact True.intro | exact rfl | refine ⟨?_, ?_⟩ | (intro h; cases h; done) | (intro h; exact h) | exact map_snoc | (refine own_congr ?_; simp; done) | (refine int_congr ?_; (first | omega | (simp; omega))) | (simp; done)))) ?_
  rintro i hi
  have hnx : (i : Int) < l.length → ∃ m, l[i]? = some m := fun h => some_of_lt (by omega)
  conv => whnf
  repeat' (first | ((with_reducible refine Split.of_true ?_); conv => whnf) | ((with_reducible refine Split.of_false ?_); conv => whnf) | ((with_reducible refine Split.neg ?_)) | ((with_reducible refine Split.is_true ?_ ?_); decide; conv => whnf) | ((with_reducible refine Split.is_false ?_ ?_); decide; conv => whnf) | ((with_reducible refine Split.nez (fun _ => ?_) (fun _ => ?_)) <;> conv => whnf) | ((with_reducible refine Split.eqz (fun _ => ?_) (fun _ => ?_)) <;> conv => whnf) | ((with_reducible refine Split.and ?_)) | ((with_reducible refine Split.or ?_)) | ((with_reducible refine Split.streq (fun _ => ?_) (fun _ => ?_)) <;> conv => whnf) | ((with_reducible refine Split.dec (fun _ => ?_) (fun _ => ?_)) <;> conv => whnf) | ((with_reducible refine Split.mk (fun _ => ?_) (fun _ => ?_)) <;> conv => whnf) | ((with_reducible refine NilK.mk (fun _ => ?_) ?_) <;> conv => whnf) | ((with_reducible refine AltK.l ?_); (conv => whnf); (with_reducible refine Need.mk ?_ ?_); (first | omega | (refine ⟨?_, ?_⟩ <;> simp <;> omega) | (simp; omega)); conv => whnf) | ((with_reducible refine Need.mk ?_ ?_); (first | omega | rfl | decide | (refine ⟨?_, ?_⟩ <;> simp <;> omega) | (simp; omega)); conv => whnf) | ((with_reducible refine Wr.quo ?_ ?_ ?_ ?_); omega; omega; omega; conv => whnf) | ((with_reducible refine Wr.inr ?_ ?_); (first | omega | (simp; omega)); conv => whnf) | ((with_reducible refine Wr.inu ?_ ?_); omega; conv => whnf) | (exfalso; first | omega | contradiction))
  · obtain ⟨s, hs⟩ := hnx (by omega)
    have hmp1 := byN_snoc hu hs
    rw [sgD] at hmp1
    conv => whnf
    repeat' (first | ((refine PickE.map i hs (by omega) ?_); conv => whnf) | ((with_reducible refine Split.of_true ?_); conv => whnf) | ((with_reducible refine Split.of_false ?_); conv => whnf) | ((with_reducible refine Split.neg ?_)) | ((with_reducible refine Split.is_true ?_ ?_); decide; conv => whnf) | ((with_reducible refine Split.is_false ?_ ?_); decide; conv => whnf) | ((with_reducible refine Split.nez (fun _ => ?_) (fun _ => ?_)) <;> conv => whnf) | ((with_reducible refine Split.eqz (fun _ => ?_) (fun _ => ?_)) <;> conv => whnf) | ((with_reducible refine Split.and ?_)) | ((with_reducible refine Split.or ?_)) | ((with_reducible refine Split.streq (fun _ => ?_) (fun _ => ?_)) <;> conv => whnf) | ((with_reducible refine Split.dec (fun _ => ?_) (fun _ => ?_)) <;> conv => whnf) | ((with_reducible refine Split.mk (fun _ => ?_) (fun _ => ?_)) <;> conv => whnf) | ((with_reducible refine NilK.mk (fun _ => ?_) ?_) <;> conv => whnf) | ((with_reducible refine AltK.l ?_); (conv => whnf); (with_reducible refine Need.mk ?_ ?_); (first | omega | (refine ⟨?_, ?_⟩ <;> simp <;> omega) | (simp; omega)); conv => whnf) | ((with_reducible refine Need.mk ?_ ?_); (first | omega | rfl | decide | (refine ⟨?_, ?_⟩ <;> simp <;> omega) | (simp; omega)); conv => whnf) | ((with_reducible refine Wr.quo ?_ ?_ ?_ ?_); omega; omega; omega; conv => whnf) | ((with_reducible refine Wr.inr ?_ ?_); (first | omega | (simp; omega)); conv => whnf) | ((with_reducible refine Wr.inu ?_ ?_); omega; conv => whnf) | (exfalso; first | omega | contradiction))
    exact Again.au (i + 1) (by omega) (by omega) (by refine ⟨?_, ?_, rfl⟩ <;> (repeat' (first | exact True.intro | exact rfl | refine ⟨?_, ?_⟩ | (intro h; cases h; done) | (intro h; exact h) | exact map_snoc | (refine own_congr ?_; simp; done) | (refine int_congr ?_; (first | omega | (simp; omega))) | (simp; done) | exact hmp1 | ((first | refine own_congr ?_ | refine int_congr ?_ | skip); simp [D.cells]; done) | ((first | refine own_congr ?_ | refine int_congr ?_); simp [D.cells]; omega) | (show @Eq (List Go.Vm.D) _ []; simp [D.cells]; done) | (simp [D.cells, D.cells]; done))))
  · rw [List.take_of_length_le (by omega)]
    exact ⟨⟨[(9, some 6)], (by refine ⟨?_, ?_, rfl⟩ <;> (repeat' (first | exact True.intro | exact rfl | refine ⟨?_, ?_⟩ | (intro h; cases h; done) | (intro h; exact h) | exact map_snoc | (refine own_congr ?_; simp; done) | (refine int_congr ?_; (first | omega | (simp; omega))) | (simp; done))))⟩, rfl⟩
def kpGo (l : List Sg) : List Int → List Int → Int
  | _, [] => 0
  | o, n :: r => if (l.any fun s => s.n == n) = false then 6 else if (o.any fun m => m == n) = true then 5 else kpGo l (o ++ [n]) r
theorem kpGo_at {l : List Sg} {k : List Int} {i : Nat} {n : Int} (h : k[i]? = some n) : kpGo l (k.take i) (k.drop i) = if (l.any fun s => s.n == n) = false then 6 else if ((k.take i).any fun m => m == n) = true then 5 else kpGo l (k.take (i + 1)) (k.drop (i + 1)) := by
  rw [drop_of h, kpGo, take_snoc h]
def keepS (l : List Sg) (k : List Int) : List Sg := l.filter fun s => k.any fun m => m == s.n
def keepRes (l : List Sg) (k : List Int) : List Sg × Int := if chkErr sgB Sg.n l ≠ 0 then ([], chkErr sgB Sg.n l) else if kpGo l [] k ≠ 0 then ([], kpGo l [] k) else (keepS l k, 0)
def sgsE (x : List Sg × Int) : D := .tup [.sl 5 (x.1.map sgD), .int .i64 x.2]
theorem xv_Keep1 (s : Sg) (k : List Int) : EvX Tryz.prog 35 [.d (sgD s), .ptr 1001 0] [(1002, .map 3 4 (.int .i64) (seenD id k)), (1001, .var [.mp 1002] false)] (.d (.bool (!(k.any fun n => n == s.n)))) [(1002, .map 3 4 (.int .i64) (seenD id k)), (1001, .var [.mp 1002] false)] := by
  have hm := mget_seen id s.n k
  refine evx_of_awp tysOk mixed (fn := Tryz.f35) Tryz.func35 rfl rfl rfl ?_
  conv => whnf
  repeat' (first | ((with_reducible refine Split.of_true ?_); conv => whnf) | ((with_reducible refine Split.of_false ?_); conv => whnf) | ((with_reducible refine Split.neg ?_)) | ((with_reducible refine Split.is_true ?_ ?_); decide; conv => whnf) | ((with_reducible refine Split.is_false ?_ ?_); decide; conv => whnf) | ((with_reducible refine Split.nez (fun _ => ?_) (fun _ => ?_)) <;> conv => whnf) | ((with_reducible refine Split.eqz (fun _ => ?_) (fun _ => ?_)) <;> conv => whnf) | ((with_reducible refine Split.and ?_)) | ((with_reducible refine Split.or ?_)) | ((with_reducible refine Split.streq (fun _ => ?_) (fun _ => ?_)) <;> conv => whnf) | ((with_reducible refine Split.dec (fun _ => ?_) (fun _ => ?_)) <;> conv => whnf) | ((with_reducible refine Split.mk (fun _ => ?_) (fun _ => ?_)) <;> conv => whnf) | ((with_reducible refine NilK.mk (fun _ => ?_) ?_) <;> conv => whnf) | ((with_reducible refine AltK.l ?_); (conv => whnf); (with_reducible refine Need.mk ?_ ?_); (first | omega | (refine ⟨?_, ?_⟩ <;> simp <;> omega) | (simp; omega)); conv => whnf) | ((with_reducible refine Need.mk ?_ ?_); (first | omega | rfl | decide | (refine ⟨?_, ?_⟩ <;> simp <;> omega) | (simp; omega)); conv => whnf) | ((with_reducible refine Wr.quo ?_ ?_ ?_ ?_); omega; omega; omega; conv => whnf) | ((with_reducible refine Wr.inr ?_ ?_); (first | omega | (simp; omega)); conv => whnf) | ((with_reducible refine Wr.inu ?_ ?_); omega; conv => whnf) | (exfalso; first | omega | contradiction))
  refine LookK.mk (fun v hv => ?_) (fun hv => ?_)
  · rw [hm] at hv
    split at hv
    · rename_i h1
      cases hv
      conv => whnf
      repeat' (first | ((with_reducible refine Split.of_true ?_); conv => whnf) | ((with_reducible refine Split.of_false ?_); conv => whnf) | ((with_reducible refine Split.neg ?_)) | ((with_reducible refine Split.is_true ?_ ?_); decide; conv => whnf) | ((with_reducible refine Split.is_false ?_ ?_); decide; conv => whnf) | ((with_reducible refine Split.nez (fun _ => ?_) (fun _ => ?_)) <;> conv => whnf) | ((with_reducible refine Split.eqz (fun _ => ?_) (fun _ => ?_)) <;> conv => whnf) | ((with_reducible refine Split.and ?_)) | ((with_reducible refine Split.or ?_)) | ((with_reducible refine Split.streq (fun _ => ?_) (fun _ => ?_)) <;> conv => whnf) | ((with_reducible refine Split.dec (fun _ => ?_) (fun _ => ?_)) <;> conv => whnf) | ((with_reducible refine Split.mk (fun _ => ?_) (fun _ => ?_)) <;> conv => whnf) | ((with_reducible refine NilK.mk (fun _ => ?_) ?_) <;> conv => whnf) | ((with_reducible refine AltK.l ?_); (conv => whnf); (with_reducible refine Need.mk ?_ ?_); (first | omega | (refine ⟨?_, ?_⟩ <;> simp <;> omega) | (simp; omega)); conv => whnf) | ((with_reducible refine Need.mk ?_ ?_); (first | omega | rfl | decide | (refine ⟨?_, ?_⟩ <;> simp <;> omega) | (simp; omega)); conv => whnf) | ((with_reducible refine Wr.quo ?_ ?_ ?_ ?_); omega; omega; omega; conv => whnf) | ((with_reducible refine Wr.inr ?_ ?_); (first | omega | (simp; omega)); conv => whnf) | ((with_reducible refine Wr.inu ?_ ?_); omega; conv => whnf) | (exfalso; first | omega | contradiction))
      rw [show (k.any fun n => n == s.n) = true from h1]
      exact ⟨⟨[], (by refine ⟨?_, ?_, rfl⟩ <;> (repeat' (first | exact True.intro | exact rfl | refine ⟨?_, ?_⟩ | (intro h; cases h; done) | (intro h; exact h) | exact map_snoc | (refine own_congr ?_; simp; done) | (refine int_congr ?_; (first | omega | (simp; omega))) | (simp; done))))⟩, rfl⟩
    · cases hv
  · have h1 : (k.any fun n => n == s.n) = false := by
      rw [hm] at hv
      split at hv
      · cases hv
      · rename_i h1; rw [Bool.not_eq_true] at h1; exact h1
    conv => whnf
    repeat' (first | ((with_reducible refine Split.of_true ?_); conv => whnf) | ((with_reducible refine Split.of_false ?_); conv => whnf) | ((with_reducible refine Split.neg ?_)) | ((with_reducible refine Split.is_true ?_ ?_); decide; conv => whnf) | ((with_reducible refine Split.is_false ?_ ?_); decide; conv => whnf) | ((with_reducible refine Split.nez (fun _ => ?_) (fun _ => ?_)) <;> conv => whnf) | ((with_reducible refine Split.eqz (fun _ => ?_) (fun _ => ?_)) <;> conv => whnf) | ((with_reducible refine Split.and ?_)) | ((with_reducible refine Split.or ?_)) | ((with_reducible refine Split.streq (fun _ => ?_) (fun _ => ?_)) <;> conv => whnf) | ((with_reducible refine Split.dec (fun _ => ?_) (fun _ => ?_)) <;> conv => whnf) | ((with_reducible refine Split.mk (fun _ => ?_) (fun _ => ?_)) <;> conv => whnf) | ((with_reducible refine NilK.mk (fun _ => ?_) ?_) <;> conv => whnf) | ((with_reducible refine AltK.l ?_); (conv => whnf); (with_reducible refine Need.mk ?_ ?_); (first | omega | (refine ⟨?_, ?_⟩ <;> simp <;> omega) | (simp; omega)); conv => whnf) | ((with_reducible refine Need.mk ?_ ?_); (first | omega | rfl | decide | (refine ⟨?_, ?_⟩ <;> simp <;> omega) | (simp; omega)); conv => whnf) | ((with_reducible refine Wr.quo ?_ ?_ ?_ ?_); omega; omega; omega; conv => whnf) | ((with_reducible refine Wr.inr ?_ ?_); (first | omega | (simp; omega)); conv => whnf) | ((with_reducible refine Wr.inu ?_ ?_); omega; conv => whnf) | (exfalso; first | omega | contradiction))
    rw [h1]
    exact ⟨⟨[], (by refine ⟨?_, ?_, rfl⟩ <;> (repeat' (first | exact True.intro | exact rfl | refine ⟨?_, ?_⟩ | (intro h; cases h; done) | (intro h; exact h) | exact map_snoc | (refine own_congr ?_; simp; done) | (refine int_congr ?_; (first | omega | (simp; omega))) | (simp; done))))⟩, rfl⟩
theorem find_any {l : List Sg} {n : Int} : ((l.find? fun s => s.n == n) = none) ↔ (l.any fun s => s.n == n) = false := by
  rw [List.find?_eq_none, List.any_eq_false]
theorem ev_Keep (l : List Sg) (k : List Int) (gs : List (Int × Int)) (hk : k.length ≤ 1000) : Ev Tryz.prog 10 [.sl 5 (l.map sgD), thD k gs] (sgsE (keepRes l k)) := by
  have hlen : (l.map sgD).length = l.length := List.length_map _
  have hlk : (k.map iD).length = k.length := List.length_map _
  have h1 := ev_CheckS l
  by_cases c0 : chkErr sgB Sg.n l = 0
  · rw [keepRes, if_neg (by simpa using c0)]
    rw [c0] at h1
    obtain ⟨hl5, hall, hu⟩ := chk_zero c0
    refine ev_of_awp tysOk mixed (fn := Tryz.f10) Tryz.func10 rfl rfl rfl ?_
    have h2 := EvX.newM (xs := [.sl 5 (l.map sgD)]) (xv_byNumber l hu (by omega)) 19
    conv => whnf
    repeat' (first | ((with_reducible refine Split.of_true ?_); conv => whnf) | ((with_reducible refine Split.of_false ?_); conv => whnf) | ((with_reducible refine Split.neg ?_)) | ((with_reducible refine Split.is_true ?_ ?_); decide; conv => whnf) | ((with_reducible refine Split.is_false ?_ ?_); decide; conv => whnf) | ((with_reducible refine Split.nez (fun _ => ?_) (fun _ => ?_)) <;> conv => whnf) | ((with_reducible refine Split.eqz (fun _ => ?_) (fun _ => ?_)) <;> conv => whnf) | ((with_reducible refine Split.and ?_)) | ((with_reducible refine Split.or ?_)) | ((with_reducible refine Split.streq (fun _ => ?_) (fun _ => ?_)) <;> conv => whnf) | ((with_reducible refine Split.dec (fun _ => ?_) (fun _ => ?_)) <;> conv => whnf) | ((with_reducible refine Split.mk (fun _ => ?_) (fun _ => ?_)) <;> conv => whnf) | ((with_reducible refine NilK.mk (fun _ => ?_) ?_) <;> conv => whnf) | ((with_reducible refine AltK.l ?_); (conv => whnf); (with_reducible refine Need.mk ?_ ?_); (first | omega | (refine ⟨?_, ?_⟩ <;> simp <;> omega) | (simp; omega)); conv => whnf) | ((with_reducible refine Need.mk ?_ ?_); (first | omega | rfl | decide | (refine ⟨?_, ?_⟩ <;> simp <;> omega) | (simp; omega)); conv => whnf) | ((with_reducible refine Wr.quo ?_ ?_ ?_ ?_); omega; omega; omega; conv => whnf) | ((with_reducible refine Wr.inr ?_ ?_); (first | omega | (simp; omega)); conv => whnf) | ((with_reducible refine Wr.inu ?_ ?_); omega; conv => whnf) | ((with_reducible refine AltK.r ?_); (conv => whnf); (first | (refine CallX.mk _ _ (h2) rfl ?_)); conv => whnf) | ((with_reducible refine AltK.l ?_); (conv => whnf); (first | (refine CallK.mk _ (h1) ?_)); conv => whnf) | (exfalso; first | omega | contradiction))
    have e0 : kpGo l [] k = kpGo l (k.take 0) (k.drop 0) := rfl
    rw [e0]
    generalize hkk : kpGo l (k.take 0) (k.drop 0) = kk
    refine LoopK.o2 (fun i : Nat => i ≤ k.length ∧ kpGo l (k.take i) (k.drop i) = kk) (fun i => [(24, .d (.int .i64 i))]) (fun i => [(20, .map 3 4 (.int .i64) (seenD id (k.take i)))]) (fun i => k.length - i) 0 ⟨by simp, hkk⟩ (by refine ⟨?_, ?_, rfl⟩ <;> (repeat' (first | exact True.intro | exact rfl | refine ⟨?_, ?_⟩ | (intro h; cases h; done) | (intro h; exact h) | exact map_snoc | (refine own_congr ?_; simp; done) | (refine int_congr ?_; (first | omega | (simp; omega))) | (simp; done)))) ?_
    rintro i ⟨hi, hp⟩
    have hnx : (i : Int) < k.length → ∃ m, k[i]? = some m := fun h => some_of_lt (by omega)
    conv => whnf
    repeat' (first | ((with_reducible refine Split.of_true ?_); conv => whnf) | ((with_reducible refine Split.of_false ?_); conv => whnf) | ((with_reducible refine Split.neg ?_)) | ((with_reducible refine Split.is_true ?_ ?_); decide; conv => whnf) | ((with_reducible refine Split.is_false ?_ ?_); decide; conv => whnf) | ((with_reducible refine Split.nez (fun _ => ?_) (fun _ => ?_)) <;> conv => whnf) | ((with_reducible refine Split.eqz (fun _ => ?_) (fun _ => ?_)) <;> conv => whnf) | ((with_reducible refine Split.and ?_)) | ((with_reducible refine Split.or ?_)) | ((with_reducible refine Split.streq (fun _ => ?_) (fun _ => ?_)) <;> conv => whnf) | ((with_reducible refine Split.dec (fun _ => ?_) (fun _ => ?_)) <;> conv => whnf) | ((with_reducible refine Split.mk (fun _ => ?_) (fun _ => ?_)) <;> conv => whnf) | ((with_reducible refine NilK.mk (fun _ => ?_) ?_) <;> conv => whnf) | ((with_reducible refine AltK.l ?_); (conv => whnf); (with_reducible refine Need.mk ?_ ?_); (first | omega | (refine ⟨?_, ?_⟩ <;> simp <;> omega) | (simp; omega)); conv => whnf) | ((with_reducible refine Need.mk ?_ ?_); (first | omega | rfl | decide | (refine ⟨?_, ?_⟩ <;> simp <;> omega) | (simp; omega)); conv => whnf) | ((with_reducible refine Wr.quo ?_ ?_ ?_ ?_); omega; omega; omega; conv => whnf) | ((with_reducible refine Wr.inr ?_ ?_); (first | omega | (simp; omega)); conv => whnf) | ((with_reducible refine Wr.inu ?_ ?_); omega; conv => whnf) | (exfalso; first | omega | contradiction))
    · obtain ⟨n, hn⟩ := hnx (by omega)
      have hk1 := hp.symm.trans (kpGo_at hn)
      conv => whnf
      repeat' (first | ((refine PickE.map i hn (by omega) ?_); conv => whnf) | ((with_reducible refine Split.of_true ?_); conv => whnf) | ((with_reducible refine Split.of_false ?_); conv => whnf) | ((with_reducible refine Split.neg ?_)) | ((with_reducible refine Split.is_true ?_ ?_); decide; conv => whnf) | ((with_reducible refine Split.is_false ?_ ?_); decide; conv => whnf) | ((with_reducible refine Split.nez (fun _ => ?_) (fun _ => ?_)) <;> conv => whnf) | ((with_reducible refine Split.eqz (fun _ => ?_) (fun _ => ?_)) <;> conv => whnf) | ((with_reducible refine Split.and ?_)) | ((with_reducible refine Split.or ?_)) | ((with_reducible refine Split.streq (fun _ => ?_) (fun _ => ?_)) <;> conv => whnf) | ((with_reducible refine Split.dec (fun _ => ?_) (fun _ => ?_)) <;> conv => whnf) | ((with_reducible refine Split.mk (fun _ => ?_) (fun _ => ?_)) <;> conv => whnf) | ((with_reducible refine NilK.mk (fun _ => ?_) ?_) <;> conv => whnf) | ((with_reducible refine AltK.l ?_); (conv => whnf); (with_reducible refine Need.mk ?_ ?_); (first | omega | (refine ⟨?_, ?_⟩ <;> simp <;> omega) | (simp; omega)); conv => whnf) | ((with_reducible refine Need.mk ?_ ?_); (first | omega | rfl | decide | (refine ⟨?_, ?_⟩ <;> simp <;> omega) | (simp; omega)); conv => whnf) | ((with_reducible refine Wr.quo ?_ ?_ ?_ ?_); omega; omega; omega; conv => whnf) | ((with_reducible refine Wr.inr ?_ ?_); (first | omega | (simp; omega)); conv => whnf) | ((with_reducible refine Wr.inu ?_ ?_); omega; conv => whnf) | (exfalso; first | omega | contradiction))
      refine LookK.mk (fun v hv => ?_) (fun hv => ?_)
      · rw [mget_byN _ _ hu, Option.map_eq_some_iff] at hv
        obtain ⟨s, hs, rfl⟩ := hv
        have hany : ¬ (l.any fun s => s.n == n) = false := by
          intro h; rw [find_any.2 h] at hs; cases hs
        rw [if_neg hany] at hk1
        have hm := mget_seen id n (k.take i)
        conv => whnf
        repeat' (first | ((with_reducible refine Split.of_true ?_); conv => whnf) | ((with_reducible refine Split.of_false ?_); conv => whnf) | ((with_reducible refine Split.neg ?_)) | ((with_reducible refine Split.is_true ?_ ?_); decide; conv => whnf) | ((with_reducible refine Split.is_false ?_ ?_); decide; conv => whnf) | ((with_reducible refine Split.nez (fun _ => ?_) (fun _ => ?_)) <;> conv => whnf) | ((with_reducible refine Split.eqz (fun _ => ?_) (fun _ => ?_)) <;> conv => whnf) | ((with_reducible refine Split.and ?_)) | ((with_reducible refine Split.or ?_)) | ((with_reducible refine Split.streq (fun _ => ?_) (fun _ => ?_)) <;> conv => whnf) | ((with_reducible refine Split.dec (fun _ => ?_) (fun _ => ?_)) <;> conv => whnf) | ((with_reducible refine Split.mk (fun _ => ?_) (fun _ => ?_)) <;> conv => whnf) | ((with_reducible refine NilK.mk (fun _ => ?_) ?_) <;> conv => whnf) | ((with_reducible refine AltK.l ?_); (conv => whnf); (with_reducible refine Need.mk ?_ ?_); (first | omega | (refine ⟨?_, ?_⟩ <;> simp <;> omega) | (simp; omega)); conv => whnf) | ((with_reducible refine Need.mk ?_ ?_); (first | omega | rfl | decide | (refine ⟨?_, ?_⟩ <;> simp <;> omega) | (simp; omega)); conv => whnf) | ((with_reducible refine Wr.quo ?_ ?_ ?_ ?_); omega; omega; omega; conv => whnf) | ((with_reducible refine Wr.inr ?_ ?_); (first | omega | (simp; omega)); conv => whnf) | ((with_reducible refine Wr.inu ?_ ?_); omega; conv => whnf) | (exfalso; first | omega | contradiction))
        refine LookK.mk (fun v hv => ?_) (fun hv => ?_)
        · rw [hm] at hv
          split at hv
          · rename_i h2
            cases hv
            rw [if_pos (show ((k.take i).any fun m => m == n) = true from h2)] at hk1
            conv => whnf
            repeat' (first | ((with_reducible refine Split.of_true ?_); conv => whnf) | ((with_reducible refine Split.of_false ?_); conv => whnf) | ((with_reducible refine Split.neg ?_)) | ((with_reducible refine Split.is_true ?_ ?_); decide; conv => whnf) | ((with_reducible refine Split.is_false ?_ ?_); decide; conv => whnf) | ((with_reducible refine Split.nez (fun _ => ?_) (fun _ => ?_)) <;> conv => whnf) | ((with_reducible refine Split.eqz (fun _ => ?_) (fun _ => ?_)) <;> conv => whnf) | ((with_reducible refine Split.and ?_)) | ((with_reducible refine Split.or ?_)) | ((with_reducible refine Split.streq (fun _ => ?_) (fun _ => ?_)) <;> conv => whnf) | ((with_reducible refine Split.dec (fun _ => ?_) (fun _ => ?_)) <;> conv => whnf) | ((with_reducible refine Split.mk (fun _ => ?_) (fun _ => ?_)) <;> conv => whnf) | ((with_reducible refine NilK.mk (fun _ => ?_) ?_) <;> conv => whnf) | ((with_reducible refine AltK.l ?_); (conv => whnf); (with_reducible refine Need.mk ?_ ?_); (first | omega | (refine ⟨?_, ?_⟩ <;> simp <;> omega) | (simp; omega)); conv => whnf) | ((with_reducible refine Need.mk ?_ ?_); (first | omega | rfl | decide | (refine ⟨?_, ?_⟩ <;> simp <;> omega) | (simp; omega)); conv => whnf) | ((with_reducible refine Wr.quo ?_ ?_ ?_ ?_); omega; omega; omega; conv => whnf) | ((with_reducible refine Wr.inr ?_ ?_); (first | omega | (simp; omega)); conv => whnf) | ((with_reducible refine Wr.inu ?_ ?_); omega; conv => whnf) | (exfalso; first | omega | contradiction))
            rw [hk1, if_pos (by decide)]; rfl
          · cases hv
        · have h3 : ¬ ((k.take i).any fun m => m == n) = true := by
            intro h3; rw [hm, if_pos (show ((k.take i).any fun y => id y == n) = true from h3)] at hv; cases hv
          rw [if_neg h3] at hk1
          have hmp1 := seen_snoc (num := id) hn hv
          conv => whnf
          repeat' (first | ((with_reducible refine Split.of_true ?_); conv => whnf) | ((with_reducible refine Split.of_false ?_); conv => whnf) | ((with_reducible refine Split.neg ?_)) | ((with_reducible refine Split.is_true ?_ ?_); decide; conv => whnf) | ((with_reducible refine Split.is_false ?_ ?_); decide; conv => whnf) | ((with_reducible refine Split.nez (fun _ => ?_) (fun _ => ?_)) <;> conv => whnf) | ((with_reducible refine Split.eqz (fun _ => ?_) (fun _ => ?_)) <;> conv => whnf) | ((with_reducible refine Split.and ?_)) | ((with_reducible refine Split.or ?_)) | ((with_reducible refine Split.streq (fun _ => ?_) (fun _ => ?_)) <;> conv => whnf) | ((with_reducible refine Split.dec (fun _ => ?_) (fun _ => ?_)) <;> conv => whnf) | ((with_reducible refine Split.mk (fun _ => ?_) (fun _ => ?_)) <;> conv => whnf) | ((with_reducible refine NilK.mk (fun _ => ?_) ?_) <;> conv => whnf) | ((with_reducible refine AltK.l ?_); (conv => whnf); (with_reducible refine Need.mk ?_ ?_); (first | omega | (refine ⟨?_, ?_⟩ <;> simp <;> omega) | (simp; omega)); conv => whnf) | ((with_reducible refine Need.mk ?_ ?_); (first | omega | rfl | decide | (refine ⟨?_, ?_⟩ <;> simp <;> omega) | (simp; omega)); conv => whnf) | ((with_reducible refine Wr.quo ?_ ?_ ?_ ?_); omega; omega; omega; conv => whnf) | ((with_reducible refine Wr.inr ?_ ?_); (first | omega | (simp; omega)); conv => whnf) | ((with_reducible refine Wr.inu ?_ ?_); omega; conv => whnf) | (exfalso; first | omega | contradiction))
          exact Again.au (i + 1) ⟨by omega, hk1.symm⟩ (by omega) (by refine ⟨?_, ?_, rfl⟩ <;> (repeat' (first | exact True.intro | exact rfl | refine ⟨?_, ?_⟩ | (intro h; cases h; done) | (intro h; exact h) | exact map_snoc | (refine own_congr ?_; simp; done) | (refine int_congr ?_; (first | omega | (simp; omega))) | (simp; done) | exact hmp1 | ((first | refine own_congr ?_ | refine int_congr ?_ | skip); simp [D.cells]; done) | ((first | refine own_congr ?_ | refine int_congr ?_); simp [D.cells]; omega) | (show @Eq (List Go.Vm.D) _ []; simp [D.cells]; done) | (simp [D.cells, D.cells]; done))))
      · rw [mget_byN _ _ hu, Option.map_eq_none_iff, find_any] at hv
        rw [if_pos hv] at hk1
        conv => whnf
        repeat' (first | ((with_reducible refine Split.of_true ?_); conv => whnf) | ((with_reducible refine Split.of_false ?_); conv => whnf) | ((with_reducible refine Split.neg ?_)) | ((with_reducible refine Split.is_true ?_ ?_); decide; conv => whnf) | ((with_reducible refine Split.is_false ?_ ?_); decide; conv => whnf) | ((with_reducible refine Split.nez (fun _ => ?_) (fun _ => ?_)) <;> conv => whnf) | ((with_reducible refine Split.eqz (fun _ => ?_) (fun _ => ?_)) <;> conv => whnf) | ((with_reducible refine Split.and ?_)) | ((with_reducible refine Split.or ?_)) | ((with_reducible refine Split.streq (fun _ => ?_) (fun _ => ?_)) <;> conv => whnf) | ((with_reducible refine Split.dec (fun _ => ?_) (fun _ => ?_)) <;> conv => whnf) | ((with_reducible refine Split.mk (fun _ => ?_) (fun _ => ?_)) <;> conv => whnf) | ((with_reducible refine NilK.mk (fun _ => ?_) ?_) <;> conv => whnf) | ((with_reducible refine AltK.l ?_); (conv => whnf); (with_reducible refine Need.mk ?_ ?_); (first | omega | (refine ⟨?_, ?_⟩ <;> simp <;> omega) | (simp; omega)); conv => whnf) | ((with_reducible refine Need.mk ?_ ?_); (first | omega | rfl | decide | (refine ⟨?_, ?_⟩ <;> simp <;> omega) | (simp; omega)); conv => whnf) | ((with_reducible refine Wr.quo ?_ ?_ ?_ ?_); omega; omega; omega; conv => whnf) | ((with_reducible refine Wr.inr ?_ ?_); (first | omega | (simp; omega)); conv => whnf) | ((with_reducible refine Wr.inu ?_ ?_); omega; conv => whnf) | (exfalso; first | omega | contradiction))
        rw [hk1, if_pos (by decide)]; rfl
    · have ei : i = k.length := by omega
      subst ei
      rw [List.drop_length, kpGo] at hp
      subst hp
      rw [List.take_length, if_neg (by decide)]
      clear hkk e0
      by_cases hn : l = []
      · subst hn
        have h4 := (xv_delSmN 35 3 4 (.int .i64) (seenD id k)).rn [(1001, 8), (1002, 20)] rfl
        conv => whnf
        repeat' (first | ((with_reducible refine Split.of_true ?_); conv => whnf) | ((with_reducible refine Split.of_false ?_); conv => whnf) | ((with_reducible refine Split.neg ?_)) | ((with_reducible refine Split.is_true ?_ ?_); decide; conv => whnf) | ((with_reducible refine Split.is_false ?_ ?_); decide; conv => whnf) | ((with_reducible refine Split.nez (fun _ => ?_) (fun _ => ?_)) <;> conv => whnf) | ((with_reducible refine Split.eqz (fun _ => ?_) (fun _ => ?_)) <;> conv => whnf) | ((with_reducible refine Split.and ?_)) | ((with_reducible refine Split.or ?_)) | ((with_reducible refine Split.streq (fun _ => ?_) (fun _ => ?_)) <;> conv => whnf) | ((with_reducible refine Split.dec (fun _ => ?_) (fun _ => ?_)) <;> conv => whnf) | ((with_reducible refine Split.mk (fun _ => ?_) (fun _ => ?_)) <;> conv => whnf) | ((with_reducible refine NilK.mk (fun _ => ?_) ?_) <;> conv => whnf) | ((with_reducible refine AltK.l ?_); (conv => whnf); (with_reducible refine Need.mk ?_ ?_); (first | omega | (refine ⟨?_, ?_⟩ <;> simp <;> omega) | (simp; omega)); conv => whnf) | ((with_reducible refine Need.mk ?_ ?_); (first | omega | rfl | decide | (refine ⟨?_, ?_⟩ <;> simp <;> omega) | (simp; omega)); conv => whnf) | ((with_reducible refine Wr.quo ?_ ?_ ?_ ?_); omega; omega; omega; conv => whnf) | ((with_reducible refine Wr.inr ?_ ?_); (first | omega | (simp; omega)); conv => whnf) | ((with_reducible refine Wr.inu ?_ ?_); omega; conv => whnf) | ((with_reducible refine AltK.r ?_); (conv => whnf); (first | (refine CallX.mk _ _ (h4) rfl ?_)); conv => whnf) | ((with_reducible refine AltK.l ?_); (conv => whnf); (first | (refine CallK.mk _ (ev_cloneS [] (by simp)) ?_)); conv => whnf) | (exfalso; first | omega | contradiction))
        rfl
      · have h3 := EvX.new1 (xs := [.sl 5 (l.map sgD)]) (xv_cloneS l (by have := List.length_pos_iff.2 hn; omega)) 43
        have hf := fun s (_ : s ∈ l) => xv_Keep1 s k
        cases h0 : l.findIdx? fun g => !(k.any fun n => n == g.n) with
        | none =>
          have h4 := (xv_delSm0 l _ _ _ _ _ _ (by omega) hf h0).rn [(1000, 43), (1001, 8), (1002, 20)] rfl
          have e : keepS l k = l := by
            rw [keepS, List.filter_eq_self]
            intro g hg
            have := List.findIdx?_eq_none_iff.1 h0 g hg
            simpa using this
          rw [e]
          conv => whnf
          repeat' (first | ((with_reducible refine Split.of_true ?_); conv => whnf) | ((with_reducible refine Split.of_false ?_); conv => whnf) | ((with_reducible refine Split.neg ?_)) | ((with_reducible refine Split.is_true ?_ ?_); decide; conv => whnf) | ((with_reducible refine Split.is_false ?_ ?_); decide; conv => whnf) | ((with_reducible refine Split.nez (fun _ => ?_) (fun _ => ?_)) <;> conv => whnf) | ((with_reducible refine Split.eqz (fun _ => ?_) (fun _ => ?_)) <;> conv => whnf) | ((with_reducible refine Split.and ?_)) | ((with_reducible refine Split.or ?_)) | ((with_reducible refine Split.streq (fun _ => ?_) (fun _ => ?_)) <;> conv => whnf) | ((with_reducible refine Split.dec (fun _ => ?_) (fun _ => ?_)) <;> conv => whnf) | ((with_reducible refine Split.mk (fun _ => ?_) (fun _ => ?_)) <;> conv => whnf) | ((with_reducible refine NilK.mk (fun _ => ?_) ?_) <;> conv => whnf) | ((with_reducible refine AltK.l ?_); (conv => whnf); (with_reducible refine Need.mk ?_ ?_); (first | omega | (refine ⟨?_, ?_⟩ <;> simp <;> omega) | (simp; omega)); conv => whnf) | ((with_reducible refine Need.mk ?_ ?_); (first | omega | rfl | decide | (refine ⟨?_, ?_⟩ <;> simp <;> omega) | (simp; omega)); conv => whnf) | ((with_reducible refine Wr.quo ?_ ?_ ?_ ?_); omega; omega; omega; conv => whnf) | ((with_reducible refine Wr.inr ?_ ?_); (first | omega | (simp; omega)); conv => whnf) | ((with_reducible refine Wr.inu ?_ ?_); omega; conv => whnf) | ((with_reducible refine AltK.r ?_); (conv => whnf); (first | (refine CallX.mk _ _ (h3) rfl ?_) | (refine CallX.mk _ _ (h4) rfl ?_)); conv => whnf) | (exfalso; first | omega | contradiction))
          rfl
        | some i0 =>
          have h4 := (xv_delSm l _ _ _ _ _ _ (by omega) hf h0).rn [(1000, 43), (1001, 8), (1002, 20), (9, 45)] rfl
          simp only [Bool.not_not] at h4
          conv => whnf
          repeat' (first | ((with_reducible refine Split.of_true ?_); conv => whnf) | ((with_reducible refine Split.of_false ?_); conv => whnf) | ((with_reducible refine Split.neg ?_)) | ((with_reducible refine Split.is_true ?_ ?_); decide; conv => whnf) | ((with_reducible refine Split.is_false ?_ ?_); decide; conv => whnf) | ((with_reducible refine Split.nez (fun _ => ?_) (fun _ => ?_)) <;> conv => whnf) | ((with_reducible refine Split.eqz (fun _ => ?_) (fun _ => ?_)) <;> conv => whnf) | ((with_reducible refine Split.and ?_)) | ((with_reducible refine Split.or ?_)) | ((with_reducible refine Split.streq (fun _ => ?_) (fun _ => ?_)) <;> conv => whnf) | ((with_reducible refine Split.dec (fun _ => ?_) (fun _ => ?_)) <;> conv => whnf) | ((with_reducible refine Split.mk (fun _ => ?_) (fun _ => ?_)) <;> conv => whnf) | ((with_reducible refine NilK.mk (fun _ => ?_) ?_) <;> conv => whnf) | ((with_reducible refine AltK.l ?_); (conv => whnf); (with_reducible refine Need.mk ?_ ?_); (first | omega | (refine ⟨?_, ?_⟩ <;> simp <;> omega) | (simp; omega)); conv => whnf) | ((with_reducible refine Need.mk ?_ ?_); (first | omega | rfl | decide | (refine ⟨?_, ?_⟩ <;> simp <;> omega) | (simp; omega)); conv => whnf) | ((with_reducible refine Wr.quo ?_ ?_ ?_ ?_); omega; omega; omega; conv => whnf) | ((with_reducible refine Wr.inr ?_ ?_); (first | omega | (simp; omega)); conv => whnf) | ((with_reducible refine Wr.inu ?_ ?_); omega; conv => whnf) | ((with_reducible refine AltK.r ?_); (conv => whnf); (first | (refine CallX.mk _ _ (h3) rfl ?_) | (refine CallX.mk _ _ (h4) rfl ?_)); conv => whnf) | (exfalso; first | omega | contradiction))
          rfl
  · rw [keepRes, if_pos c0]
    refine ev_of_awp tysOk mixed (fn := Tryz.f10) Tryz.func10 rfl rfl rfl ?_
    conv => whnf
    repeat' (first | ((with_reducible refine Split.of_true ?_); conv => whnf) | ((with_reducible refine Split.of_false ?_); conv => whnf) | ((with_reducible refine Split.neg ?_)) | ((with_reducible refine Split.is_true ?_ ?_); decide; conv => whnf) | ((with_reducible refine Split.is_false ?_ ?_); decide; conv => whnf) | ((with_reducible refine Split.nez (fun _ => ?_) (fun _ => ?_)) <;> conv => whnf) | ((with_reducible refine Split.eqz (fun _ => ?_) (fun _ => ?_)) <;> conv => whnf) | ((with_reducible refine Split.and ?_)) | ((with_reducible refine Split.or ?_)) | ((with_reducible refine Split.streq (fun _ => ?_) (fun _ => ?_)) <;> conv => whnf) | ((with_reducible refine Split.dec (fun _ => ?_) (fun _ => ?_)) <;> conv => whnf) | ((with_reducible refine Split.mk (fun _ => ?_) (fun _ => ?_)) <;> conv => whnf) | ((with_reducible refine NilK.mk (fun _ => ?_) ?_) <;> conv => whnf) | ((with_reducible refine AltK.l ?_); (conv => whnf); (with_reducible refine Need.mk ?_ ?_); (first | omega | (refine ⟨?_, ?_⟩ <;> simp <;> omega) | (simp; omega)); conv => whnf) | ((with_reducible refine Need.mk ?_ ?_); (first | omega | rfl | decide | (refine ⟨?_, ?_⟩ <;> simp <;> omega) | (simp; omega)); conv => whnf) | ((with_reducible refine Wr.quo ?_ ?_ ?_ ?_); omega; omega; omega; conv => whnf) | ((with_reducible refine Wr.inr ?_ ?_); (first | omega | (simp; omega)); conv => whnf) | ((with_reducible refine Wr.inu ?_ ?_); omega; conv => whnf) | ((with_reducible refine AltK.l ?_); (conv => whnf); (first | (refine CallK.mk _ (h1) ?_)); conv => whnf) | (exfalso; first | omega | contradiction))
    all_goals simp_all [retOf, sgsE, iD]
end Go.Proofs.Tryz
end

section
/- Openings of typed arguments: raw soundings, soundings, lists of numbers, thinnings, grids. -/
namespace Go.Proofs.Tryz
open Go Go.Vm
def cRaw : List Cs := [.int .i64, .int .i64, .int .i64, .int .i64, .int .i64, .int .i64, .int .i64]
theorem raw_of {d : D} (h : TyV (true, cRaw) d) : ∃ r, d = rD r := by
  obtain ⟨ds, rfl, hl, hc⟩ := agg_of h
  match ds, hl with
  | [a, b, c, e, f, g, i], _ =>
    obtain ⟨x0, rfl, -⟩ := int_of (hc 0 _ a rfl rfl)
    obtain ⟨x1, rfl, -⟩ := int_of (hc 1 _ b rfl rfl)
    obtain ⟨x2, rfl, -⟩ := int_of (hc 2 _ c rfl rfl)
    obtain ⟨x3, rfl, -⟩ := int_of (hc 3 _ e rfl rfl)
    obtain ⟨x4, rfl, -⟩ := int_of (hc 4 _ f rfl rfl)
    obtain ⟨x5, rfl, -⟩ := int_of (hc 5 _ g rfl rfl)
    obtain ⟨x6, rfl, -⟩ := int_of (hc 6 _ i rfl rfl)
    exact ⟨⟨x0, x1, x2, x3, x4, x5, x6⟩, rfl⟩
theorem raws_of {d : D} (h : Ty (.sl true cRaw) d) : ∃ l : List Rw, d = .sl 7 (l.map rD) := by
  obtain ⟨es, rfl, he, -⟩ := sl_of h
  obtain ⟨l, rfl⟩ := map_of (fun d hd => raw_of hd) he
  exact ⟨l, rfl⟩
theorem ints_of {d : D} (h : Ty (.sl false [.int .i64]) d) : ∃ l : List Int, d = .sl 1 (l.map iD) := by
  obtain ⟨es, rfl, he, -⟩ := sl_of h
  obtain ⟨l, rfl⟩ := map_of (f := iD) (fun d hd => by
    obtain ⟨n, rfl, -⟩ := int_of (one_of hd)
    exact ⟨n, rfl⟩) he
  exact ⟨l, rfl⟩
end Go.Proofs.Tryz
end

section
namespace Go.Proofs.Tryz
open Go Go.Vm Go.Sort
set_option maxRecDepth 20000
set_option maxHeartbeats 4000000
/-! The reference's Keep; SoundingThins. -/
theorem keep_len (l : List Sg) (k : List Int) : (keepS l k).length ≤ l.length := List.length_filter_le _ _
theorem thin_len (l : List Sg) (r : Int) (h : chkErr sgB Sg.n l = 0) : (thinRes l r).1.length ≤ 500 ∧ (thinRes l r).2.1.length ≤ 500 := by
  obtain ⟨h5, _, _⟩ := chk_zero h
  rw [thinRes, if_neg (by simpa using h)]
  split
  · simp
  · have := thinO_len r (sortL cfThin l)
    rw [sortL_len] at this
    simp only [sortZ_len, sortL_len, List.length_map]
    omega
theorem thin_len' (l : List Sg) (r : Int) : (thinRes l r).1.length ≤ 500 ∧ (thinRes l r).2.1.length ≤ 500 := by
  by_cases h : chkErr sgB Sg.n l = 0
  · exact thin_len l r h
  · rw [thinRes, if_pos h]; simp
end Go.Proofs.Tryz
end

section
namespace Go.Proofs.Tryz
open Go Go.Vm Go.Sort
set_option maxRecDepth 20000
set_option maxHeartbeats 2000000
theorem ev_ModB (a b : Int) (hb : 0 < b ∧ b ≤ 1000000000000000000) : Ev Tryz.prog 15 [iD a, iD b] (iD (a % b)) := by
  have h1 := Int.tmod_eq_emod (a := a) (b := b)
  have h2 := Int.emod_nonneg a (Int.ne_of_gt hb.1)
  have h3 := Int.emod_lt_of_pos a hb.1
  have hn : (b.natAbs : Int) = b := by omega
  have hbd : -1000000000000000000 ≤ a.tmod b ∧ a.tmod b ≤ 1000000000000000000 := by rw [h1]; split <;> omega
  have h : (if a.tmod b < 0 then a.tmod b + b else a.tmod b) = a % b := by
    rw [h1]
    split <;> split <;> omega
  clear h1
  refine ev_of_awp tysOk mixed (fn := Tryz.f15) Tryz.func15 rfl rfl rfl ?_
  conv => whnf
  repeat' (first | ((with_reducible refine Split.of_true ?_); conv => whnf) | ((with_reducible refine Split.of_false ?_); conv => whnf) | ((with_reducible refine Split.neg ?_)) | ((with_reducible refine Split.is_true ?_ ?_); decide; conv => whnf) | ((with_reducible refine Split.is_false ?_ ?_); decide; conv => whnf) | ((with_reducible refine Split.nez (fun _ => ?_) (fun _ => ?_)) <;> conv => whnf) | ((with_reducible refine Split.eqz (fun _ => ?_) (fun _ => ?_)) <;> conv => whnf) | ((with_reducible refine Split.and ?_)) | ((with_reducible refine Split.or ?_)) | ((with_reducible refine Split.streq (fun _ => ?_) (fun _ => ?_)) <;> conv => whnf) | ((with_reducible refine Split.dec (fun _ => ?_) (fun _ => ?_)) <;> conv => whnf) | ((with_reducible refine Split.mk (fun _ => ?_) (fun _ => ?_)) <;> conv => whnf) | ((with_reducible refine NilK.mk (fun _ => ?_) ?_) <;> conv => whnf) | ((with_reducible refine AltK.l ?_); (conv => whnf); (with_reducible refine Need.mk ?_ ?_); (first | omega | (refine ⟨?_, ?_⟩ <;> simp <;> omega) | (simp; omega)); conv => whnf) | ((with_reducible refine Need.mk ?_ ?_); (first | omega | rfl | decide | (refine ⟨?_, ?_⟩ <;> simp <;> omega) | (simp; omega)); conv => whnf) | ((with_reducible refine Wr.quo ?_ ?_ ?_ ?_); omega; omega; omega; conv => whnf) | ((with_reducible refine Wr.inr ?_ ?_); (first | omega | (simp; omega)); conv => whnf) | ((with_reducible refine Wr.inu ?_ ?_); omega; conv => whnf) | (exfalso; first | omega | contradiction))
  · rw [if_pos (by assumption)] at h; rw [← h]; rfl
  · rw [if_neg (by assumption)] at h; rw [← h]; rfl
end Go.Proofs.Tryz
end

section
namespace Go.Proofs.Tryz
open Go Go.Vm Go.Sort
set_option maxRecDepth 20000
set_option maxHeartbeats 4000000
/-! Nearest soundings. -/
end Go.Proofs.Tryz
end

section
namespace Go.Proofs.Tryz
open Go Go.Vm Go.Sort
set_option maxRecDepth 20000
set_option maxHeartbeats 4000000
/-! The reference's nearest soundings: it takes the least one that is left, again and again. -/
end Go.Proofs.Tryz
end

section
namespace Go.Proofs.Tryz
open Go Go.Vm Go.Sort
set_option maxRecDepth 20000
set_option maxHeartbeats 4000000
/-! Near. -/
end Go.Proofs.Tryz
end

section
namespace Go.Proofs.Tryz
open Go Go.Vm Go.Sort
set_option maxRecDepth 20000
set_option maxHeartbeats 4000000
/-! Spikes. -/
theorem ev_FloorB (a b : Int) (hb : 0 < b ∧ b ≤ 1000000000000) (ha : -1000000000000000 ≤ a ∧ a ≤ 1000000000000000) : Ev Tryz.prog 47 [iD a, iD b] (iD (a / b)) := by
  have h := ev_ModB a b ⟨hb.1, by omega⟩
  have e1 := Int.emod_nonneg a (Int.ne_of_gt hb.1)
  have e2 := Int.emod_lt_of_pos a hb.1
  have e3 : (a - a % b).tdiv b = a / b := by
    have : a - a % b = b * (a / b) := by have := Int.mul_ediv_add_emod a b; omega
    rw [this, Int.mul_tdiv_cancel_left _ (Int.ne_of_gt hb.1)]
  have e4 := ediv_bd (a := a) (b := b) (M := 1000000000000000) hb.1 (by omega)
  generalize a % b = m at *
  refine ev_of_awp tysOk mixed (fn := Tryz.f47) Tryz.func47 rfl rfl rfl ?_
  conv => whnf
  repeat' (first | (((rw [e3])); conv => whnf) | ((with_reducible refine Split.of_true ?_); conv => whnf) | ((with_reducible refine Split.of_false ?_); conv => whnf) | ((with_reducible refine Split.neg ?_)) | ((with_reducible refine Split.is_true ?_ ?_); decide; conv => whnf) | ((with_reducible refine Split.is_false ?_ ?_); decide; conv => whnf) | ((with_reducible refine Split.nez (fun _ => ?_) (fun _ => ?_)) <;> conv => whnf) | ((with_reducible refine Split.eqz (fun _ => ?_) (fun _ => ?_)) <;> conv => whnf) | ((with_reducible refine Split.and ?_)) | ((with_reducible refine Split.or ?_)) | ((with_reducible refine Split.streq (fun _ => ?_) (fun _ => ?_)) <;> conv => whnf) | ((with_reducible refine Split.dec (fun _ => ?_) (fun _ => ?_)) <;> conv => whnf) | ((with_reducible refine Split.mk (fun _ => ?_) (fun _ => ?_)) <;> conv => whnf) | ((with_reducible refine NilK.mk (fun _ => ?_) ?_) <;> conv => whnf) | ((with_reducible refine AltK.l ?_); (conv => whnf); (with_reducible refine Need.mk ?_ ?_); (first | omega | (refine ⟨?_, ?_⟩ <;> simp <;> omega) | (simp; omega)); conv => whnf) | ((with_reducible refine Need.mk ?_ ?_); (first | omega | rfl | decide | (refine ⟨?_, ?_⟩ <;> simp <;> omega) | (simp; omega)); conv => whnf) | ((with_reducible refine Wr.quo ?_ ?_ ?_ ?_); omega; omega; omega; conv => whnf) | ((with_reducible refine Wr.inr ?_ ?_); (first | omega | (simp; omega)); conv => whnf) | ((with_reducible refine Wr.inu ?_ ?_); omega; conv => whnf) | ((with_reducible refine AltK.l ?_); (conv => whnf); (first | (refine CallK.mk _ (h) ?_)); conv => whnf) | (exfalso; first | omega | contradiction))
  rfl
end Go.Proofs.Tryz
end

section
/- A library function of the seat, laid (written by lay.sh). -/
open Go Go.Shelf
namespace Go.Proofs
def ly_LyM_ren : Shelf.Ren := ⟨fun | 212 => 102 | 263 => 124 | 264 => 125 | n => n, fun | 46 => 99 | 51 => 126 | 146 => 158 | 53 => 128 | 148 => 160 | n => n, fun | n => n⟩
theorem ly_LyM : Go.Proofs.Lays.n212 Tryz.prog ly_LyM_ren where
  mixed := by kernel_rfl
  f212 := Tryz.func102.trans (congrArg some (by kernel_rfl))
  f263 := Tryz.func124.trans (congrArg some (by kernel_rfl))
  f264 := Tryz.func125.trans (congrArg some (by kernel_rfl))
  t46 := Tryz.underlying99
  a46 := Tryz.isAgg99
  z46 := Tryz.sizeOf99
  v46 := Tryz.zeroValue99
  t51 := Tryz.underlying126
  a51 := Tryz.isAgg126
  z51 := Tryz.sizeOf126
  v51 := Tryz.zeroValue126
  t53 := Tryz.underlying128
  a53 := Tryz.isAgg128
  z53 := Tryz.sizeOf128
  v53 := Tryz.zeroValue128
  t146 := Tryz.underlying158
  a146 := Tryz.isAgg158
  z146 := Tryz.sizeOf158
  v146 := Tryz.zeroValue158
  t148 := Tryz.underlying160
  a148 := Tryz.isAgg160
  z148 := Tryz.sizeOf160
  v148 := Tryz.zeroValue160
end Go.Proofs
end
