/- Texts SdD SdJ SdP TwZ SdK SdQ SdHm SdO SdZ SdR SdN SdU SdV SdY LyM SdF SdFb SdS SdFc, joined; what is not needed is left out. -/
import Derived.Test.YtpbhikmlcaddmaaMpc
import Derived.Test.YtpbhikmlcaddmaaMgI
import Derived.Test.YtpbhikmlcaddmaaMpa
import Derived.Test.YtpbhikmlcaddmaaMgJ
import Derived.Test.YtpbhikmlcaddmaaProg
import Derived.Shelf.Lays
section
namespace Go.Proofs.Try
open Go Go.Vm
set_option maxRecDepth 20000
set_option maxHeartbeats 2000000
theorem chkGo_zero {α : Type} {v : α → Bool} {num : α → Int} : ∀ (r o : List α), chkGo v num o r = 0 → (∀ x ∈ r, v x = true ∧ ∀ y ∈ o, num y ≠ num x) ∧ r.Pairwise fun a b => num a ≠ num b
  | [], _, _ => ⟨(fun x h => (by cases h)), .nil⟩
  | x :: r, o, h => by
    rw [chkGo] at h
    split at h
    · cases h
    · rename_i h1
      split at h
      · cases h
      · rename_i h2
        obtain ⟨k1, k2⟩ := chkGo_zero r (o ++ [x]) h
        refine ⟨fun y hy => ?_, List.pairwise_cons.2 ⟨fun y hy => (k1 y hy).2 x (by simp), k2⟩⟩
        rcases List.mem_cons.1 hy with rfl | hy
        · exact ⟨by simpa using h1, fun z hz he => h2 (List.any_eq_true.2 ⟨z, hz, by simp [he]⟩)⟩
        · exact ⟨(k1 y hy).1, fun z hz => (k1 y hy).2 z (by simp [hz])⟩
theorem chk_zero {α : Type} {v : α → Bool} {num : α → Int} {l : List α} (h : chkErr v num l = 0) : l.length ≤ 500 ∧ (∀ x ∈ l, v x = true) ∧ l.Pairwise fun a b => num a ≠ num b := by
  unfold chkErr at h
  split at h
  · cases h
  · obtain ⟨a, b⟩ := chkGo_zero l [] h
    exact ⟨by omega, fun x hx => (a x hx).1, b⟩
def okL (g : List Ga) (r : Rw) : Bool := (lvS g r.x r.mi).2.2
def redV (g : List Ga) (r : Rw) : Sg := redS r (lvS g r.x r.mi).1 (lvS g r.x r.mi).2.1
def outS (g : List Ga) (l : List Rw) : List Sg := (l.filter (okL g)).map (redV g)
def dryS (g : List Ga) (l : List Rw) : List Int := (l.filter fun r => !okL g r).map Rw.n
def raE (g : List Ga) (l : List Rw) : List Sg × List Int × Int := if chkErr rawB Rw.n l ≠ 0 then ([], [], chkErr rawB Rw.n l) else if gsErr g ≠ 0 then ([], [], gsErr g) else (outS g l, dryS g l, 0)
def raD (x : List Sg × List Int × Int) : D := .tup [.sl 5 (x.1.map sgD), .sl 1 (x.2.1.map iD), .int .i64 x.2.2]
theorem out_snoc {g : List Ga} {l : List Rw} {i : Nat} {r : Rw} (hr : l[i]? = some r) : outS g (l.take (i + 1)) = if okL g r = true then outS g (l.take i) ++ [redV g r] else outS g (l.take i) := by
  rw [take_snoc hr, outS, List.filter_append, List.map_append]
  by_cases h : okL g r = true
  · rw [if_pos h]; simp [h, outS]
  · rw [if_neg h]; simp [h, outS]
theorem dry_snoc {g : List Ga} {l : List Rw} {i : Nat} {r : Rw} (hr : l[i]? = some r) : dryS g (l.take (i + 1)) = if okL g r = true then dryS g (l.take i) else dryS g (l.take i) ++ [r.n] := by
  rw [take_snoc hr, dryS, List.filter_append, List.map_append]
  by_cases h : okL g r = true
  · rw [if_pos h]; simp [h, dryS]
  · rw [if_neg h]; simp [h, dryS]
theorem out_len (g : List Ga) (l : List Rw) : (outS g l).length ≤ l.length := by rw [outS, List.length_map]; exact List.length_filter_le _ _
theorem dry_len (g : List Ga) (l : List Rw) : (dryS g l).length ≤ l.length := by rw [dryS, List.length_map]; exact List.length_filter_le _ _
theorem ev_ReduceAll (g : List Ga) (l : List Rw) : Ev Try.prog 6 [.sl 4 (g.map gD), .sl 7 (l.map rD)] (raD (raE g l)) := by
  have hlen : (l.map rD).length = l.length := List.length_map _
  have h1 := ev_CheckRaws l
  have h2 := ev_CheckGauges g
  by_cases c0 : chkErr rawB Rw.n l = 0
  · rw [raE, if_neg (by simpa using c0)]
    obtain ⟨hl5, hall, _⟩ := chk_zero c0
    rw [c0] at h1
    by_cases g0 : gsErr g = 0
    · rw [if_neg (by simpa using g0)]
      rw [g0] at h2
      refine ev_of_awp tysOk mixed (fn := Try.f6) Try.func6 rfl rfl rfl ?_
      conv => whnf
      repeat' (first
        | ((with_reducible refine Split.of_true ?_); conv => whnf)
        | ((with_reducible refine Split.of_false ?_); conv => whnf)
        | ((with_reducible refine Split.neg ?_))
        | ((with_reducible refine Split.is_true ?_ ?_); decide; conv => whnf)
        | ((with_reducible refine Split.is_false ?_ ?_); decide; conv => whnf)
        | ((with_reducible refine Split.nez (fun _ => ?_) (fun _ => ?_)) <;> conv => whnf)
        | ((with_reducible refine Split.eqz (fun _ => ?_) (fun _ => ?_)) <;> conv => whnf)
        | ((with_reducible refine Split.and ?_))
        | ((with_reducible refine Split.or ?_))
        | ((with_reducible refine Split.streq (fun _ => ?_) (fun _ => ?_)) <;> conv => whnf)
        | ((with_reducible refine Split.dec (fun _ => ?_) (fun _ => ?_)) <;> conv => whnf)
        | ((with_reducible refine Split.mk (fun _ => ?_) (fun _ => ?_)) <;> conv => whnf)
        | ((with_reducible refine NilK.mk (fun _ => ?_) ?_) <;> conv => whnf)
        | ((with_reducible refine AltK.l ?_); (conv => whnf); (with_reducible refine Need.mk ?_ ?_); (first | omega | (refine ⟨?_, ?_⟩ <;> simp <;> omega) | (simp; omega)); conv => whnf)
        | ((with_reducible refine Need.mk ?_ ?_); (first | omega | rfl | decide | (refine ⟨?_, ?_⟩ <;> simp <;> omega) | (simp; omega)); conv => whnf)
        | ((with_reducible refine Wr.quo ?_ ?_ ?_ ?_); omega; omega; omega; conv => whnf)
        | ((with_reducible refine Wr.inr ?_ ?_); (first | omega | (simp; omega)); conv => whnf)
        | ((with_reducible refine Wr.inu ?_ ?_); omega; conv => whnf)
        | ((with_reducible refine AltK.l ?_); (conv => whnf); (first | (refine CallK.mk _ (h1) ?_) | (refine CallK.mk _ (h2) ?_)); conv => whnf)
        | (exfalso; first | omega | contradiction))
      refine LoopK.o2 (fun i : Nat => i ≤ l.length) (fun i => [(9, .own 200 5 ((outS g (l.take i)).map sgD).length), (10, .own 201 1 ((dryS g (l.take i)).map iD).length), (27, .d (.int .i64 i))])
        (fun i => [(200, .row 38 5 ((outS g (l.take i)).map sgD) false), (201, .row 3 1 ((dryS g (l.take i)).map iD) false)]) (fun i => l.length - i) 0 (by simp) (by refine ⟨?_, ?_, rfl⟩ <;> (repeat' (first | exact True.intro | exact rfl | refine ⟨?_, ?_⟩ | (intro h; cases h; done) | (intro h; exact h) | exact map_snoc | (refine own_congr ?_; simp; done) | (refine int_congr ?_; (first | omega | (simp; omega))) | (simp; done) | ((first | refine own_congr ?_ | refine int_congr ?_ | skip); simp [outS,dryS]; done) | ((first | refine own_congr ?_ | refine int_congr ?_); simp [outS,dryS]; omega) | (show @Eq (List Go.Vm.D) _ []; simp [outS,dryS]; done) | (simp [D.cells, outS,dryS]; done)))) ?_
      rintro i hi
      have hn : (i : Int) < l.length → ∃ m, l[i]? = some m := fun h => some_of_lt (by omega)
      have l1 : (outS g (l.take i)).length ≤ 500 := by have := out_len g (l.take i); rw [List.length_take] at this; omega
      have l2 : (dryS g (l.take i)).length ≤ 500 := by have := dry_len g (l.take i); rw [List.length_take] at this; omega
      conv => whnf
      repeat' (first
        | ((with_reducible refine Split.of_true ?_); conv => whnf)
        | ((with_reducible refine Split.of_false ?_); conv => whnf)
        | ((with_reducible refine Split.neg ?_))
        | ((with_reducible refine Split.is_true ?_ ?_); decide; conv => whnf)
        | ((with_reducible refine Split.is_false ?_ ?_); decide; conv => whnf)
        | ((with_reducible refine Split.nez (fun _ => ?_) (fun _ => ?_)) <;> conv => whnf)
        | ((with_reducible refine Split.eqz (fun _ => ?_) (fun _ => ?_)) <;> conv => whnf)
        | ((with_reducible refine Split.and ?_))
        | ((with_reducible refine Split.or ?_))
        | ((with_reducible refine Split.streq (fun _ => ?_) (fun _ => ?_)) <;> conv => whnf)
        | ((with_reducible refine Split.dec (fun _ => ?_) (fun _ => ?_)) <;> conv => whnf)
        | ((with_reducible refine Split.mk (fun _ => ?_) (fun _ => ?_)) <;> conv => whnf)
        | ((with_reducible refine NilK.mk (fun _ => ?_) ?_) <;> conv => whnf)
        | ((with_reducible refine AltK.l ?_); (conv => whnf); (with_reducible refine Need.mk ?_ ?_); (first | omega | (refine ⟨?_, ?_⟩ <;> simp <;> omega) | (simp; omega)); conv => whnf)
        | ((with_reducible refine Need.mk ?_ ?_); (first | omega | rfl | decide | (refine ⟨?_, ?_⟩ <;> simp <;> omega) | (simp; omega)); conv => whnf)
        | ((with_reducible refine Wr.quo ?_ ?_ ?_ ?_); omega; omega; omega; conv => whnf)
        | ((with_reducible refine Wr.inr ?_ ?_); (first | omega | (simp; omega)); conv => whnf)
        | ((with_reducible refine Wr.inu ?_ ?_); omega; conv => whnf)
        | (exfalso; first | omega | contradiction))
      · obtain ⟨r, hr⟩ := hn (by omega)
        have hrg := raw_good.1 (hall r (List.mem_of_getElem? hr))
        have hL := ev_Level g r.x r.mi
        have o1 : (outsideB r.x (-1000000) 1000000 || outsideB r.mi 0 1000000) = false := by
          have := hrg.x
          have := hrg.mi
          simp only [outsideB, Bool.or_eq_false_iff, decide_eq_false_iff_not]; omega
        rw [LvS, o1, if_neg (by simpa using g0), if_neg (by decide)] at hL
        have hbd := lv_bd (t := r.mi) (goodAll g0) hrg.x
        have hR := ev_reduced hrg (lo := (lvS g r.x r.mi).1) (hi := (lvS g r.x r.mi).2.1) hbd
        have s1 := out_snoc (g := g) hr
        have s2 := dry_snoc (g := g) hr
        cases hok : okL g r with
        | true =>
          rw [hok, if_pos rfl] at s1 s2
          rw [show (lvS g r.x r.mi).2.2 = true from hok, if_pos rfl] at hL
          conv => whnf
          repeat' (first
            | ((refine PickE.map i hr (by omega) ?_); conv => whnf)
            | ((with_reducible refine Split.of_true ?_); conv => whnf)
            | ((with_reducible refine Split.of_false ?_); conv => whnf)
            | ((with_reducible refine Split.neg ?_))
            | ((with_reducible refine Split.is_true ?_ ?_); decide; conv => whnf)
            | ((with_reducible refine Split.is_false ?_ ?_); decide; conv => whnf)
            | ((with_reducible refine Split.nez (fun _ => ?_) (fun _ => ?_)) <;> conv => whnf)
            | ((with_reducible refine Split.eqz (fun _ => ?_) (fun _ => ?_)) <;> conv => whnf)
            | ((with_reducible refine Split.and ?_))
            | ((with_reducible refine Split.or ?_))
            | ((with_reducible refine Split.streq (fun _ => ?_) (fun _ => ?_)) <;> conv => whnf)
            | ((with_reducible refine Split.dec (fun _ => ?_) (fun _ => ?_)) <;> conv => whnf)
            | ((with_reducible refine Split.mk (fun _ => ?_) (fun _ => ?_)) <;> conv => whnf)
            | ((with_reducible refine NilK.mk (fun _ => ?_) ?_) <;> conv => whnf)
            | ((with_reducible refine AltK.l ?_); (conv => whnf); (with_reducible refine Need.mk ?_ ?_); (first | omega | (refine ⟨?_, ?_⟩ <;> simp <;> omega) | (simp; omega)); conv => whnf)
            | ((with_reducible refine Need.mk ?_ ?_); (first | omega | rfl | decide | (refine ⟨?_, ?_⟩ <;> simp <;> omega) | (simp; omega)); conv => whnf)
            | ((with_reducible refine Wr.quo ?_ ?_ ?_ ?_); omega; omega; omega; conv => whnf)
            | ((with_reducible refine Wr.inr ?_ ?_); (first | omega | (simp; omega)); conv => whnf)
            | ((with_reducible refine Wr.inu ?_ ?_); omega; conv => whnf)
            | ((with_reducible refine AltK.l ?_); (conv => whnf); (first | (refine CallK.mk _ (hL) ?_) | (refine CallK.mk _ (hR) ?_)); conv => whnf)
            | (exfalso; first | omega | contradiction))
          refine Again.au (i + 1) (by omega) (by omega) (by refine ⟨?_, ?_, rfl⟩ <;> (repeat' (first | exact True.intro | exact rfl | refine ⟨?_, ?_⟩ | (intro h; cases h; done) | (intro h; exact h) | exact map_snoc | (refine own_congr ?_; simp; done) | (refine int_congr ?_; (first | omega | (simp; omega))) | (simp; done) | ((first | refine own_congr ?_ | refine int_congr ?_ | skip); simp [s1,s2,redV]; done) | ((first | refine own_congr ?_ | refine int_congr ?_); simp [s1,s2,redV]; omega) | (show @Eq (List Go.Vm.D) _ []; simp [s1,s2,redV]; done) | (simp [D.cells, s1,s2,redV]; done))))
        | false =>
          rw [hok, if_neg Bool.false_ne_true] at s1 s2
          rw [show (lvS g r.x r.mi).2.2 = false from hok, if_neg Bool.false_ne_true] at hL
          conv => whnf
          repeat' (first
            | ((refine PickE.map i hr (by omega) ?_); conv => whnf)
            | ((with_reducible refine Split.of_true ?_); conv => whnf)
            | ((with_reducible refine Split.of_false ?_); conv => whnf)
            | ((with_reducible refine Split.neg ?_))
            | ((with_reducible refine Split.is_true ?_ ?_); decide; conv => whnf)
            | ((with_reducible refine Split.is_false ?_ ?_); decide; conv => whnf)
            | ((with_reducible refine Split.nez (fun _ => ?_) (fun _ => ?_)) <;> conv => whnf)
            | ((with_reducible refine Split.eqz (fun _ => ?_) (fun _ => ?_)) <;> conv => whnf)
            | ((with_reducible refine Split.and ?_))
            | ((with_reducible refine Split.or ?_))
            | ((with_reducible refine Split.streq (fun _ => ?_) (fun _ => ?_)) <;> conv => whnf)
            | ((with_reducible refine Split.dec (fun _ => ?_) (fun _ => ?_)) <;> conv => whnf)
            | ((with_reducible refine Split.mk (fun _ => ?_) (fun _ => ?_)) <;> conv => whnf)
            | ((with_reducible refine NilK.mk (fun _ => ?_) ?_) <;> conv => whnf)
            | ((with_reducible refine AltK.l ?_); (conv => whnf); (with_reducible refine Need.mk ?_ ?_); (first | omega | (refine ⟨?_, ?_⟩ <;> simp <;> omega) | (simp; omega)); conv => whnf)
            | ((with_reducible refine Need.mk ?_ ?_); (first | omega | rfl | decide | (refine ⟨?_, ?_⟩ <;> simp <;> omega) | (simp; omega)); conv => whnf)
            | ((with_reducible refine Wr.quo ?_ ?_ ?_ ?_); omega; omega; omega; conv => whnf)
            | ((with_reducible refine Wr.inr ?_ ?_); (first | omega | (simp; omega)); conv => whnf)
            | ((with_reducible refine Wr.inu ?_ ?_); omega; conv => whnf)
            | ((with_reducible refine AltK.l ?_); (conv => whnf); (first | (refine CallK.mk _ (hL) ?_) | (refine CallK.mk _ (hR) ?_)); conv => whnf)
            | (exfalso; first | omega | contradiction))
          refine Again.au (i + 1) (by omega) (by omega) (by refine ⟨?_, ?_, rfl⟩ <;> (repeat' (first | exact True.intro | exact rfl | refine ⟨?_, ?_⟩ | (intro h; cases h; done) | (intro h; exact h) | exact map_snoc | (refine own_congr ?_; simp; done) | (refine int_congr ?_; (first | omega | (simp; omega))) | (simp; done) | ((first | refine own_congr ?_ | refine int_congr ?_ | skip); simp [s1,s2,iD]; done) | ((first | refine own_congr ?_ | refine int_congr ?_); simp [s1,s2,iD]; omega) | (show @Eq (List Go.Vm.D) _ []; simp [s1,s2,iD]; done) | (simp [D.cells, s1,s2,iD]; done))))
      · rw [List.take_of_length_le (by omega)] at *
        rfl
    · rw [if_pos g0]
      refine ev_of_awp tysOk mixed (fn := Try.f6) Try.func6 rfl rfl rfl ?_
      conv => whnf
      repeat' (first
        | ((with_reducible refine Split.of_true ?_); conv => whnf)
        | ((with_reducible refine Split.of_false ?_); conv => whnf)
        | ((with_reducible refine Split.neg ?_))
        | ((with_reducible refine Split.is_true ?_ ?_); decide; conv => whnf)
        | ((with_reducible refine Split.is_false ?_ ?_); decide; conv => whnf)
        | ((with_reducible refine Split.nez (fun _ => ?_) (fun _ => ?_)) <;> conv => whnf)
        | ((with_reducible refine Split.eqz (fun _ => ?_) (fun _ => ?_)) <;> conv => whnf)
        | ((with_reducible refine Split.and ?_))
        | ((with_reducible refine Split.or ?_))
        | ((with_reducible refine Split.streq (fun _ => ?_) (fun _ => ?_)) <;> conv => whnf)
        | ((with_reducible refine Split.dec (fun _ => ?_) (fun _ => ?_)) <;> conv => whnf)
        | ((with_reducible refine Split.mk (fun _ => ?_) (fun _ => ?_)) <;> conv => whnf)
        | ((with_reducible refine NilK.mk (fun _ => ?_) ?_) <;> conv => whnf)
        | ((with_reducible refine AltK.l ?_); (conv => whnf); (with_reducible refine Need.mk ?_ ?_); (first | omega | (refine ⟨?_, ?_⟩ <;> simp <;> omega) | (simp; omega)); conv => whnf)
        | ((with_reducible refine Need.mk ?_ ?_); (first | omega | rfl | decide | (refine ⟨?_, ?_⟩ <;> simp <;> omega) | (simp; omega)); conv => whnf)
        | ((with_reducible refine Wr.quo ?_ ?_ ?_ ?_); omega; omega; omega; conv => whnf)
        | ((with_reducible refine Wr.inr ?_ ?_); (first | omega | (simp; omega)); conv => whnf)
        | ((with_reducible refine Wr.inu ?_ ?_); omega; conv => whnf)
        | ((with_reducible refine AltK.l ?_); (conv => whnf); (first | (refine CallK.mk _ (h1) ?_) | (refine CallK.mk _ (h2) ?_)); conv => whnf)
        | (exfalso; first | omega | contradiction))
      all_goals simp_all [retOf, raD, iD]
  · rw [raE, if_pos c0]
    refine ev_of_awp tysOk mixed (fn := Try.f6) Try.func6 rfl rfl rfl ?_
    conv => whnf
    repeat' (first
      | ((with_reducible refine Split.of_true ?_); conv => whnf)
      | ((with_reducible refine Split.of_false ?_); conv => whnf)
      | ((with_reducible refine Split.neg ?_))
      | ((with_reducible refine Split.is_true ?_ ?_); decide; conv => whnf)
      | ((with_reducible refine Split.is_false ?_ ?_); decide; conv => whnf)
      | ((with_reducible refine Split.nez (fun _ => ?_) (fun _ => ?_)) <;> conv => whnf)
      | ((with_reducible refine Split.eqz (fun _ => ?_) (fun _ => ?_)) <;> conv => whnf)
      | ((with_reducible refine Split.and ?_))
      | ((with_reducible refine Split.or ?_))
      | ((with_reducible refine Split.streq (fun _ => ?_) (fun _ => ?_)) <;> conv => whnf)
      | ((with_reducible refine Split.dec (fun _ => ?_) (fun _ => ?_)) <;> conv => whnf)
      | ((with_reducible refine Split.mk (fun _ => ?_) (fun _ => ?_)) <;> conv => whnf)
      | ((with_reducible refine NilK.mk (fun _ => ?_) ?_) <;> conv => whnf)
      | ((with_reducible refine AltK.l ?_); (conv => whnf); (with_reducible refine Need.mk ?_ ?_); (first | omega | (refine ⟨?_, ?_⟩ <;> simp <;> omega) | (simp; omega)); conv => whnf)
      | ((with_reducible refine Need.mk ?_ ?_); (first | omega | rfl | decide | (refine ⟨?_, ?_⟩ <;> simp <;> omega) | (simp; omega)); conv => whnf)
      | ((with_reducible refine Wr.quo ?_ ?_ ?_ ?_); omega; omega; omega; conv => whnf)
      | ((with_reducible refine Wr.inr ?_ ?_); (first | omega | (simp; omega)); conv => whnf)
      | ((with_reducible refine Wr.inu ?_ ?_); omega; conv => whnf)
      | ((with_reducible refine AltK.l ?_); (conv => whnf); (first | (refine CallK.mk _ (h1) ?_) | (refine CallK.mk _ (h2) ?_)); conv => whnf)
      | (exfalso; first | omega | contradiction))
    all_goals simp_all [retOf, raD, iD]
theorem ev_Ints (a b : List Int) (ha : a.length ≤ 1000000) : Ev Try.prog 30 [.sl 1 (a.map iD), .sl 1 (b.map iD)] (.bool (decide (a = b))) := by
  have hla : (a.map iD).length = a.length := List.length_map _
  have hlb : (b.map iD).length = b.length := List.length_map _
  refine ev_of_awp tysOk mixed (fn := Try.f30) Try.func30 rfl rfl rfl ?_
  conv => whnf
  repeat' (first
    | ((with_reducible refine Split.of_true ?_); conv => whnf)
    | ((with_reducible refine Split.of_false ?_); conv => whnf)
    | ((with_reducible refine Split.neg ?_))
    | ((with_reducible refine Split.is_true ?_ ?_); decide; conv => whnf)
    | ((with_reducible refine Split.is_false ?_ ?_); decide; conv => whnf)
    | ((with_reducible refine Split.nez (fun _ => ?_) (fun _ => ?_)) <;> conv => whnf)
    | ((with_reducible refine Split.eqz (fun _ => ?_) (fun _ => ?_)) <;> conv => whnf)
    | ((with_reducible refine Split.and ?_))
    | ((with_reducible refine Split.or ?_))
    | ((with_reducible refine Split.streq (fun _ => ?_) (fun _ => ?_)) <;> conv => whnf)
    | ((with_reducible refine Split.dec (fun _ => ?_) (fun _ => ?_)) <;> conv => whnf)
    | ((with_reducible refine Split.mk (fun _ => ?_) (fun _ => ?_)) <;> conv => whnf)
    | ((with_reducible refine NilK.mk (fun _ => ?_) ?_) <;> conv => whnf)
    | ((with_reducible refine AltK.l ?_); (conv => whnf); (with_reducible refine Need.mk ?_ ?_); (first | omega | (refine ⟨?_, ?_⟩ <;> simp <;> omega) | (simp; omega)); conv => whnf)
    | ((with_reducible refine Need.mk ?_ ?_); (first | omega | rfl | decide | (refine ⟨?_, ?_⟩ <;> simp <;> omega) | (simp; omega)); conv => whnf)
    | ((with_reducible refine Wr.quo ?_ ?_ ?_ ?_); omega; omega; omega; conv => whnf)
    | ((with_reducible refine Wr.inr ?_ ?_); (first | omega | (simp; omega)); conv => whnf)
    | ((with_reducible refine Wr.inu ?_ ?_); omega; conv => whnf)
    | (exfalso; first | omega | contradiction))
  · have : a ≠ b := by rintro rfl; omega
    simp [retOf, this]
  refine LoopK.o2 (fun i : Nat => i ≤ a.length ∧ a.take i = b.take i) (fun i => [(5, .d (.int .i64 i))]) (fun _ => []) (fun i => a.length - i) 0 (by simp) (by refine ⟨?_, ?_, rfl⟩ <;> (repeat' (first | exact True.intro | exact rfl | refine ⟨?_, ?_⟩ | (intro h; cases h; done) | (intro h; exact h) | exact map_snoc | (refine own_congr ?_; simp; done) | (refine int_congr ?_; (first | omega | (simp; omega))) | (simp; done)))) ?_
  rintro i ⟨hi, hp⟩
  have hn : (i : Int) < a.length → ∃ m, a[i]? = some m := fun h => some_of_lt (by omega)
  have hn2 : (i : Int) < a.length → ∃ m, b[i]? = some m := fun h => some_of_lt (by omega)
  conv => whnf
  repeat' (first
    | ((with_reducible refine Split.of_true ?_); conv => whnf)
    | ((with_reducible refine Split.of_false ?_); conv => whnf)
    | ((with_reducible refine Split.neg ?_))
    | ((with_reducible refine Split.is_true ?_ ?_); decide; conv => whnf)
    | ((with_reducible refine Split.is_false ?_ ?_); decide; conv => whnf)
    | ((with_reducible refine Split.nez (fun _ => ?_) (fun _ => ?_)) <;> conv => whnf)
    | ((with_reducible refine Split.eqz (fun _ => ?_) (fun _ => ?_)) <;> conv => whnf)
    | ((with_reducible refine Split.and ?_))
    | ((with_reducible refine Split.or ?_))
    | ((with_reducible refine Split.streq (fun _ => ?_) (fun _ => ?_)) <;> conv => whnf)
    | ((with_reducible refine Split.dec (fun _ => ?_) (fun _ => ?_)) <;> conv => whnf)
    | ((with_reducible refine Split.mk (fun _ => ?_) (fun _ => ?_)) <;> conv => whnf)
    | ((with_reducible refine NilK.mk (fun _ => ?_) ?_) <;> conv => whnf)
    | ((with_reducible refine AltK.l ?_); (conv => whnf); (with_reducible refine Need.mk ?_ ?_); (first | omega | (refine ⟨?_, ?_⟩ <;> simp <;> omega) | (simp; omega)); conv => whnf)
    | ((with_reducible refine Need.mk ?_ ?_); (first | omega | rfl | decide | (refine ⟨?_, ?_⟩ <;> simp <;> omega) | (simp; omega)); conv => whnf)
    | ((with_reducible refine Wr.quo ?_ ?_ ?_ ?_); omega; omega; omega; conv => whnf)
    | ((with_reducible refine Wr.inr ?_ ?_); (first | omega | (simp; omega)); conv => whnf)
    | ((with_reducible refine Wr.inu ?_ ?_); omega; conv => whnf)
    | (exfalso; first | omega | contradiction))
  · obtain ⟨x, hx⟩ := hn (by omega)
    obtain ⟨y, hy⟩ := hn2 (by omega)
    conv => whnf
    repeat' (first
      | ((refine PickE.map i hy (by omega) ?_); conv => whnf)
      | ((refine PickE.map i hx (by omega) ?_); conv => whnf)
      | ((with_reducible refine Split.of_true ?_); conv => whnf)
      | ((with_reducible refine Split.of_false ?_); conv => whnf)
      | ((with_reducible refine Split.neg ?_))
      | ((with_reducible refine Split.is_true ?_ ?_); decide; conv => whnf)
      | ((with_reducible refine Split.is_false ?_ ?_); decide; conv => whnf)
      | ((with_reducible refine Split.nez (fun _ => ?_) (fun _ => ?_)) <;> conv => whnf)
      | ((with_reducible refine Split.eqz (fun _ => ?_) (fun _ => ?_)) <;> conv => whnf)
      | ((with_reducible refine Split.and ?_))
      | ((with_reducible refine Split.or ?_))
      | ((with_reducible refine Split.streq (fun _ => ?_) (fun _ => ?_)) <;> conv => whnf)
      | ((with_reducible refine Split.dec (fun _ => ?_) (fun _ => ?_)) <;> conv => whnf)
      | ((with_reducible refine Split.mk (fun _ => ?_) (fun _ => ?_)) <;> conv => whnf)
      | ((with_reducible refine NilK.mk (fun _ => ?_) ?_) <;> conv => whnf)
      | ((with_reducible refine AltK.l ?_); (conv => whnf); (with_reducible refine Need.mk ?_ ?_); (first | omega | (refine ⟨?_, ?_⟩ <;> simp <;> omega) | (simp; omega)); conv => whnf)
      | ((with_reducible refine Need.mk ?_ ?_); (first | omega | rfl | decide | (refine ⟨?_, ?_⟩ <;> simp <;> omega) | (simp; omega)); conv => whnf)
      | ((with_reducible refine Wr.quo ?_ ?_ ?_ ?_); omega; omega; omega; conv => whnf)
      | ((with_reducible refine Wr.inr ?_ ?_); (first | omega | (simp; omega)); conv => whnf)
      | ((with_reducible refine Wr.inu ?_ ?_); omega; conv => whnf)
      | (exfalso; first | omega | contradiction))
    · have hxy : x ≠ y := by assumption
      have : a ≠ b := by rintro rfl; rw [hx] at hy; cases hy; exact hxy rfl
      simp [retOf, this]
    · have hxy : x = y := by assumption
      refine Again.au (i + 1) ⟨by omega, ?_⟩ (by omega) (by refine ⟨?_, ?_, rfl⟩ <;> (repeat' (first | exact True.intro | exact rfl | refine ⟨?_, ?_⟩ | (intro h; cases h; done) | (intro h; exact h) | exact map_snoc | (refine own_congr ?_; simp; done) | (refine int_congr ?_; (first | omega | (simp; omega))) | (simp; done))))
      rw [take_snoc hx, take_snoc hy, hp, hxy]
  · have : a = b := by
      rw [List.take_of_length_le (by omega), List.take_of_length_le (by omega)] at hp; exact hp
    simp [retOf, this]
end Go.Proofs.Try
end

section
namespace Go.Proofs.Try
open Go Go.Vm Go.Sort
set_option maxRecDepth 20000
set_option maxHeartbeats 2000000
theorem list_snoc {α : Type} {P : List α → Prop} (h0 : P []) (h1 : ∀ l a, P l → P (l ++ [a])) (l : List α) : P l := by
  induction hn : l.length generalizing l with
  | zero => rw [List.eq_nil_of_length_eq_zero hn]; exact h0
  | succ n ih =>
    rcases nil_or_snoc l with rfl | ⟨r, a, rfl⟩
    · exact h0
    · exact h1 r a (ih r (by simpa using hn))
theorem sg_place {s : Sg} (h : sgB s = true) : -1000000 ≤ s.x ∧ s.x ≤ 1000000 ∧ -1000000 ≤ s.y ∧ s.y ≤ 1000000 := by
  simp only [sgB, outsideB, Bool.and_eq_true, Bool.not_eq_true', Bool.or_eq_false_iff, decide_eq_false_iff_not] at h
  omega
end Go.Proofs.Try
end

section
namespace Go.Proofs.Try
open Go Go.Vm Go.Sort
/-! Plain laws of sorted lists. -/
end Go.Proofs.Try
end

section
/- Openings of typed arguments: marks, gauges. -/
namespace Go.Proofs.Try
open Go Go.Vm
def cMark : List Cs := [.int .i64, .int .i64]
def cGauge : List Cs := [.str, .int .i64, .int .i64, .sl true cMark]
theorem int_of {k : IntKind} {d : D} (h : Ty (.int k) d) : ∃ n, d = .int k n ∧ (Lit.int k n).wf = true := by cases h; exact ⟨_, rfl, by assumption⟩
theorem str_of {d : D} (h : Ty .str d) : ∃ s, d = .str s ∧ s.size ≤ 9223372036854775807 := by
  cases h with
  | str s h => exact ⟨_, rfl, h⟩
theorem sl_of {agg : Bool} {cs : List Cs} {d : D} (h : Ty (.sl agg cs) d) : ∃ es, d = .sl cs.length es ∧ (∀ e ∈ es, TyV (agg, cs) e) ∧ es.length ≤ 9223372036854775807 := by
  cases h with
  | sl hk hl h hn => exact ⟨_, rfl, fun e he => ⟨hk e he, hl e he, h e he⟩, hn⟩
theorem agg_of {cs : List Cs} {d : D} (h : TyV (true, cs) d) : ∃ ds, d = .agg ds ∧ ds.length = cs.length ∧ ∀ (j : Nat) c e, cs[j]? = some c → ds[j]? = some e → Ty c e := by
  obtain ⟨ds, rfl⟩ := h.1.1 rfl
  exact ⟨ds, rfl, h.2.1, h.2.2⟩
theorem one_of {c : Cs} {d : D} (h : TyV (false, [c]) d) : Ty c d := by
  have h1 := h.1.2 rfl
  have := h.2.2 0 c d rfl
  rw [(one_cells h1).1] at this
  exact this rfl
theorem map_of {α : Type} {f : α → D} {Q : D → Prop} (hf : ∀ d, Q d → ∃ a, d = f a) : ∀ {es : List D}, (∀ e ∈ es, Q e) → ∃ l : List α, es = l.map f
  | [], _ => ⟨[], rfl⟩
  | e :: es, h => by
    obtain ⟨a, rfl⟩ := hf e (h e (List.mem_cons_self ..))
    obtain ⟨l, rfl⟩ := map_of hf (fun e he => h e (List.mem_cons_of_mem _ he))
    exact ⟨a :: l, rfl⟩
theorem mark_of {d : D} (h : TyV (true, cMark) d) : ∃ m, d = mD m := by
  obtain ⟨ds, rfl, hl, hc⟩ := agg_of h
  match ds, hl with
  | [a, b], _ =>
    obtain ⟨x, rfl, -⟩ := int_of (hc 0 _ a rfl rfl)
    obtain ⟨y, rfl, -⟩ := int_of (hc 1 _ b rfl rfl)
    exact ⟨⟨x, y⟩, rfl⟩
theorem marks_of {d : D} (h : Ty (.sl true cMark) d) : ∃ l : List Mk, d = .sl 2 (l.map mD) := by
  obtain ⟨es, rfl, he, -⟩ := sl_of h
  obtain ⟨l, rfl⟩ := map_of (fun d hd => mark_of hd) he
  exact ⟨l, rfl⟩
theorem gauge_of {d : D} (h : TyV (true, cGauge) d) : ∃ g, d = gD g := by
  obtain ⟨ds, rfl, hl, hc⟩ := agg_of h
  match ds, hl with
  | [a, b, c, e], _ =>
    obtain ⟨s, rfl, -⟩ := str_of (hc 0 _ a rfl rfl)
    obtain ⟨x, rfl, -⟩ := int_of (hc 1 _ b rfl rfl)
    obtain ⟨y, rfl, -⟩ := int_of (hc 2 _ c rfl rfl)
    obtain ⟨l, rfl⟩ := marks_of (hc 3 _ e rfl rfl)
    exact ⟨⟨s, x, y, l⟩, rfl⟩
theorem gauges_of {d : D} (h : Ty (.sl true cGauge) d) : ∃ l : List Ga, d = .sl 4 (l.map gD) := by
  obtain ⟨es, rfl, he, -⟩ := sl_of h
  obtain ⟨l, rfl⟩ := map_of (fun d hd => gauge_of hd) he
  exact ⟨l, rfl⟩
end Go.Proofs.Try
end

section
namespace Go.Proofs.Try
open Go Go.Vm Go.Sort
set_option maxRecDepth 20000
set_option maxHeartbeats 2000000
def rawS : Rw := ⟨7, 10, 0, 0, 500, 40, 10⟩
end Go.Proofs.Try
end

section
namespace Go.Proofs.Try
open Go Go.Vm Go.Sort
/-! Plain laws of thinnings. -/
end Go.Proofs.Try
end

section
namespace Go.Proofs.Try
open Go Go.Vm
set_option maxRecDepth 20000
set_option maxHeartbeats 2000000
/-! IndexFunc and DeleteFunc by a function that has captured a map. -/
end Go.Proofs.Try
end

section
namespace Go.Proofs.Try
open Go Go.Vm Go.Sort
set_option maxRecDepth 20000
set_option maxHeartbeats 4000000
/-! Sheets by numbers; kept soundings. -/
end Go.Proofs.Try
end

section
/- Openings of typed arguments: raw soundings, soundings, lists of numbers, thinnings, grids. -/
namespace Go.Proofs.Try
open Go Go.Vm
def cRaw : List Cs := [.int .i64, .int .i64, .int .i64, .int .i64, .int .i64, .int .i64, .int .i64]
theorem raw_of {d : D} (h : TyV (true, cRaw) d) : ∃ r, d = rD r := by
  obtain ⟨ds, rfl, hl, hc⟩ := agg_of h
  match ds, hl with
  | [a, b, c, e, f, g, i], _ =>
    obtain ⟨x0, rfl, -⟩ := int_of (hc 0 _ a rfl rfl)
    obtain ⟨x1, rfl, -⟩ := int_of (hc 1 _ b rfl rfl)
    obtain ⟨x2, rfl, -⟩ := int_of (hc 2 _ c rfl rfl)
    obtain ⟨x3, rfl, -⟩ := int_of (hc 3 _ e rfl rfl)
    obtain ⟨x4, rfl, -⟩ := int_of (hc 4 _ f rfl rfl)
    obtain ⟨x5, rfl, -⟩ := int_of (hc 5 _ g rfl rfl)
    obtain ⟨x6, rfl, -⟩ := int_of (hc 6 _ i rfl rfl)
    exact ⟨⟨x0, x1, x2, x3, x4, x5, x6⟩, rfl⟩
theorem raws_of {d : D} (h : Ty (.sl true cRaw) d) : ∃ l : List Rw, d = .sl 7 (l.map rD) := by
  obtain ⟨es, rfl, he, -⟩ := sl_of h
  obtain ⟨l, rfl⟩ := map_of (fun d hd => raw_of hd) he
  exact ⟨l, rfl⟩
theorem ints_of {d : D} (h : Ty (.sl false [.int .i64]) d) : ∃ l : List Int, d = .sl 1 (l.map iD) := by
  obtain ⟨es, rfl, he, -⟩ := sl_of h
  obtain ⟨l, rfl⟩ := map_of (f := iD) (fun d hd => by
    obtain ⟨n, rfl, -⟩ := int_of (one_of hd)
    exact ⟨n, rfl⟩) he
  exact ⟨l, rfl⟩
end Go.Proofs.Try
end

section
namespace Go.Proofs.Try
open Go Go.Vm Go.Sort
set_option maxRecDepth 20000
set_option maxHeartbeats 4000000
/-! The reference's Keep; SoundingThins. -/
end Go.Proofs.Try
end

section
namespace Go.Proofs.Try
open Go Go.Vm Go.Sort
set_option maxRecDepth 20000
set_option maxHeartbeats 4000000
/-! Nearest soundings. -/
end Go.Proofs.Try
end

section
namespace Go.Proofs.Try
open Go Go.Vm Go.Sort
set_option maxRecDepth 20000
set_option maxHeartbeats 4000000
/-! The reference's nearest soundings: it takes the least one that is left, again and again. -/
end Go.Proofs.Try
end

section
namespace Go.Proofs.Try
open Go Go.Vm Go.Sort
set_option maxRecDepth 20000
set_option maxHeartbeats 4000000
/-! Near. -/
end Go.Proofs.Try
end

section
namespace Go.Proofs.Try
open Go Go.Vm Go.Sort
set_option maxRecDepth 20000
set_option maxHeartbeats 4000000
/-! Spikes. -/
end Go.Proofs.Try
end

section
/- A library function of the seat, laid (written by lay.sh). -/
open Go Go.Shelf
namespace Go.Proofs
def ly_LyM_ren : Shelf.Ren := ⟨fun | 212 => 63 | 263 => 66 | 264 => 67 | n => n, fun | 46 => 102 | 51 => 107 | 146 => 108 | 53 => 110 | 148 => 111 | n => n, fun | n => n⟩
theorem ly_LyM : Go.Proofs.Lays.n212 Try.prog ly_LyM_ren where
  mixed := by kernel_rfl
  f212 := Try.func63.trans (congrArg some (by kernel_rfl))
  f263 := Try.func66.trans (congrArg some (by kernel_rfl))
  f264 := Try.func67.trans (congrArg some (by kernel_rfl))
  t46 := Try.underlying102
  a46 := Try.isAgg102
  z46 := Try.sizeOf102
  v46 := Try.zeroValue102
  t51 := Try.underlying107
  a51 := Try.isAgg107
  z51 := Try.sizeOf107
  v51 := Try.zeroValue107
  t53 := Try.underlying110
  a53 := Try.isAgg110
  z53 := Try.sizeOf110
  v53 := Try.zeroValue110
  t146 := Try.underlying108
  a146 := Try.isAgg108
  z146 := Try.sizeOf108
  v146 := Try.zeroValue108
  t148 := Try.underlying111
  a148 := Try.isAgg111
  z148 := Try.sizeOf111
  v148 := Try.zeroValue111
end Go.Proofs
end

section
namespace Go.Proofs.Try
open Go Go.Vm Go.Sort
set_option maxRecDepth 20000
set_option maxHeartbeats 4000000
/-! Grids: cells, slices.Repeat. -/
theorem ev_MulU (x y : Int) (hx : 0 ≤ x ∧ x < 18446744073709551616) (hy : 0 ≤ y ∧ y < 18446744073709551616) (h : x * y < 18446744073709551616) : Ev Try.prog 63 [.int .u64 x, .int .u64 y] (.tup [.int .u64 0, .int .u64 (x * y)]) := Ev.mulU ly_LyM x y hx hy h
structure Gr where
  x : Int
  y : Int
  side : Int
  cols : Int
  rows : Int
  lv : List Int
def grD (g : Gr) : D := .agg [iD g.x, iD g.y, iD g.side, iD g.cols, iD g.rows, .sl 1 (g.lv.map iD)]
def frBad (g : Gr) : Bool := outsideB g.x (-1000000) 1000000 || outsideB g.y (-1000000) 1000000 || outsideB g.side 100 10000 || decide (g.cols < 1) || decide (g.rows < 1)
def frLarge (g : Gr) : Bool := decide (g.cols > 1024) || decide (g.rows > 1024) || decide (g.cols * g.rows > 1024)
def frErr (g : Gr) : Int := if frBad g = true then 2 else if frLarge g = true then 8 else 0
structure FrOk (g : Gr) : Prop where
  x : -1000000 ≤ g.x ∧ g.x ≤ 1000000
  y : -1000000 ≤ g.y ∧ g.y ≤ 1000000
  side : 100 ≤ g.side ∧ g.side ≤ 10000
  cols : 1 ≤ g.cols ∧ g.cols ≤ 1024
  rows : 1 ≤ g.rows ∧ g.rows ≤ 1024
  all : 1 ≤ g.cols * g.rows ∧ g.cols * g.rows ≤ 1024
theorem fr_ok {g : Gr} (h : frErr g = 0) : FrOk g := by
  unfold frErr at h
  split at h
  · cases h
  · rename_i h1
    split at h
    · cases h
    · rename_i h2
      simp only [frBad, frLarge, outsideB, Bool.not_eq_true, Bool.or_eq_false_iff, decide_eq_false_iff_not] at h1 h2
      refine ⟨by omega, by omega, by omega, by omega, by omega, ?_, by omega⟩
      have := Int.mul_le_mul (show 1 ≤ g.cols by omega) (show 1 ≤ g.rows by omega) (by omega) (by omega)
      omega
theorem ev_checkCells (g : Gr) : Ev Try.prog 44 [grD g] (iD (frErr g)) := by
  have h1 := ev_w2 g.x g.y (-1000000) 1000000
  have h2 := ev_w1 g.side 100 10000
  by_cases hc : 1 ≤ g.cols ∧ g.cols ≤ 1024 ∧ 1 ≤ g.rows ∧ g.rows ≤ 1024
  · have m := mul_bd (x := g.cols) (y := g.rows) (X := 1024) (Y := 1024) (by omega) (by omega)
    unfold frErr frBad frLarge
    generalize outsideB g.x (-1000000) 1000000 = b1 at *
    generalize outsideB g.y (-1000000) 1000000 = b2 at *
    generalize outsideB g.side 100 10000 = b3 at *
    cases b1 <;> cases b2 <;> cases b3
    all_goals
      refine ev_of_awp tysOk mixed (fn := Try.f44) Try.func44 rfl rfl rfl ?_
      conv => whnf
      repeat' (first
        | ((with_reducible refine Split.of_true ?_); conv => whnf)
        | ((with_reducible refine Split.of_false ?_); conv => whnf)
        | ((with_reducible refine Split.neg ?_))
        | ((with_reducible refine Split.is_true ?_ ?_); decide; conv => whnf)
        | ((with_reducible refine Split.is_false ?_ ?_); decide; conv => whnf)
        | ((with_reducible refine Split.nez (fun _ => ?_) (fun _ => ?_)) <;> conv => whnf)
        | ((with_reducible refine Split.eqz (fun _ => ?_) (fun _ => ?_)) <;> conv => whnf)
        | ((with_reducible refine Split.and ?_))
        | ((with_reducible refine Split.or ?_))
        | ((with_reducible refine Split.streq (fun _ => ?_) (fun _ => ?_)) <;> conv => whnf)
        | ((with_reducible refine Split.dec (fun _ => ?_) (fun _ => ?_)) <;> conv => whnf)
        | ((with_reducible refine Split.mk (fun _ => ?_) (fun _ => ?_)) <;> conv => whnf)
        | ((with_reducible refine NilK.mk (fun _ => ?_) ?_) <;> conv => whnf)
        | ((with_reducible refine AltK.l ?_); (conv => whnf); (with_reducible refine Need.mk ?_ ?_); (first | omega | (refine ⟨?_, ?_⟩ <;> simp <;> omega) | (simp; omega)); conv => whnf)
        | ((with_reducible refine Need.mk ?_ ?_); (first | omega | rfl | decide | (refine ⟨?_, ?_⟩ <;> simp <;> omega) | (simp; omega)); conv => whnf)
        | ((with_reducible refine Wr.quo ?_ ?_ ?_ ?_); omega; omega; omega; conv => whnf)
        | ((with_reducible refine Wr.inr ?_ ?_); (first | omega | (simp; omega)); conv => whnf)
        | ((with_reducible refine Wr.inu ?_ ?_); omega; conv => whnf)
        | ((with_reducible refine AltK.l ?_); (conv => whnf); (first | (refine CallK.mk _ (h1) ?_) | (refine CallK.mk _ (h2) ?_)); conv => whnf)
        | (exfalso; first | omega | contradiction))
      all_goals (simp_all [retOf, iD] <;> omega)
  · unfold frErr frBad frLarge
    generalize outsideB g.x (-1000000) 1000000 = b1 at *
    generalize outsideB g.y (-1000000) 1000000 = b2 at *
    generalize outsideB g.side 100 10000 = b3 at *
    cases b1 <;> cases b2 <;> cases b3
    all_goals
      refine ev_of_awp tysOk mixed (fn := Try.f44) Try.func44 rfl rfl rfl ?_
      conv => whnf
      repeat' (first
        | ((with_reducible refine Split.of_true ?_); conv => whnf)
        | ((with_reducible refine Split.of_false ?_); conv => whnf)
        | ((with_reducible refine Split.neg ?_))
        | ((with_reducible refine Split.is_true ?_ ?_); decide; conv => whnf)
        | ((with_reducible refine Split.is_false ?_ ?_); decide; conv => whnf)
        | ((with_reducible refine Split.nez (fun _ => ?_) (fun _ => ?_)) <;> conv => whnf)
        | ((with_reducible refine Split.eqz (fun _ => ?_) (fun _ => ?_)) <;> conv => whnf)
        | ((with_reducible refine Split.and ?_))
        | ((with_reducible refine Split.or ?_))
        | ((with_reducible refine Split.streq (fun _ => ?_) (fun _ => ?_)) <;> conv => whnf)
        | ((with_reducible refine Split.dec (fun _ => ?_) (fun _ => ?_)) <;> conv => whnf)
        | ((with_reducible refine Split.mk (fun _ => ?_) (fun _ => ?_)) <;> conv => whnf)
        | ((with_reducible refine NilK.mk (fun _ => ?_) ?_) <;> conv => whnf)
        | ((with_reducible refine AltK.l ?_); (conv => whnf); (with_reducible refine Need.mk ?_ ?_); (first | omega | (refine ⟨?_, ?_⟩ <;> simp <;> omega) | (simp; omega)); conv => whnf)
        | ((with_reducible refine Need.mk ?_ ?_); (first | omega | rfl | decide | (refine ⟨?_, ?_⟩ <;> simp <;> omega) | (simp; omega)); conv => whnf)
        | ((with_reducible refine Wr.quo ?_ ?_ ?_ ?_); omega; omega; omega; conv => whnf)
        | ((with_reducible refine Wr.inr ?_ ?_); (first | omega | (simp; omega)); conv => whnf)
        | ((with_reducible refine Wr.inu ?_ ?_); omega; conv => whnf)
        | ((with_reducible refine AltK.l ?_); (conv => whnf); (first | (refine CallK.mk _ (h1) ?_) | (refine CallK.mk _ (h2) ?_)); conv => whnf)
        | (exfalso; first | omega | contradiction))
      all_goals (simp_all [retOf, iD] <;> omega)
theorem ev_CheckFrame (g : Gr) : Ev Try.prog 13 [grD g] (iD (frErr g)) := by
  have h1 := ev_Within g.x (-1000000) 1000000
  have h2 := ev_Within g.y (-1000000) 1000000
  have h3 := ev_Within g.side 100 10000
  by_cases hc : 1 ≤ g.cols ∧ g.cols ≤ 1024 ∧ 1 ≤ g.rows ∧ g.rows ≤ 1024
  · have m := mul_bd (x := g.cols) (y := g.rows) (X := 1024) (Y := 1024) (by omega) (by omega)
    unfold frErr frBad frLarge
    generalize outsideB g.x (-1000000) 1000000 = b1 at *
    generalize outsideB g.y (-1000000) 1000000 = b2 at *
    generalize outsideB g.side 100 10000 = b3 at *
    cases b1 <;> cases b2 <;> cases b3
    all_goals
      refine ev_of_awp tysOk mixed (fn := Try.f13) Try.func13 rfl rfl rfl ?_
      conv => whnf
      repeat' (first
        | ((with_reducible refine Split.of_true ?_); conv => whnf)
        | ((with_reducible refine Split.of_false ?_); conv => whnf)
        | ((with_reducible refine Split.neg ?_))
        | ((with_reducible refine Split.is_true ?_ ?_); decide; conv => whnf)
        | ((with_reducible refine Split.is_false ?_ ?_); decide; conv => whnf)
        | ((with_reducible refine Split.nez (fun _ => ?_) (fun _ => ?_)) <;> conv => whnf)
        | ((with_reducible refine Split.eqz (fun _ => ?_) (fun _ => ?_)) <;> conv => whnf)
        | ((with_reducible refine Split.and ?_))
        | ((with_reducible refine Split.or ?_))
        | ((with_reducible refine Split.streq (fun _ => ?_) (fun _ => ?_)) <;> conv => whnf)
        | ((with_reducible refine Split.dec (fun _ => ?_) (fun _ => ?_)) <;> conv => whnf)
        | ((with_reducible refine Split.mk (fun _ => ?_) (fun _ => ?_)) <;> conv => whnf)
        | ((with_reducible refine NilK.mk (fun _ => ?_) ?_) <;> conv => whnf)
        | ((with_reducible refine AltK.l ?_); (conv => whnf); (with_reducible refine Need.mk ?_ ?_); (first | omega | (refine ⟨?_, ?_⟩ <;> simp <;> omega) | (simp; omega)); conv => whnf)
        | ((with_reducible refine Need.mk ?_ ?_); (first | omega | rfl | decide | (refine ⟨?_, ?_⟩ <;> simp <;> omega) | (simp; omega)); conv => whnf)
        | ((with_reducible refine Wr.quo ?_ ?_ ?_ ?_); omega; omega; omega; conv => whnf)
        | ((with_reducible refine Wr.inr ?_ ?_); (first | omega | (simp; omega)); conv => whnf)
        | ((with_reducible refine Wr.inu ?_ ?_); omega; conv => whnf)
        | ((with_reducible refine AltK.l ?_); (conv => whnf); (first | (refine CallK.mk _ (h1) ?_) | (refine CallK.mk _ (h2) ?_) | (refine CallK.mk _ (h3) ?_)); conv => whnf)
        | (exfalso; first | omega | contradiction))
      all_goals (simp_all [retOf, iD] <;> omega)
  · unfold frErr frBad frLarge
    generalize outsideB g.x (-1000000) 1000000 = b1 at *
    generalize outsideB g.y (-1000000) 1000000 = b2 at *
    generalize outsideB g.side 100 10000 = b3 at *
    cases b1 <;> cases b2 <;> cases b3
    all_goals
      refine ev_of_awp tysOk mixed (fn := Try.f13) Try.func13 rfl rfl rfl ?_
      conv => whnf
      repeat' (first
        | ((with_reducible refine Split.of_true ?_); conv => whnf)
        | ((with_reducible refine Split.of_false ?_); conv => whnf)
        | ((with_reducible refine Split.neg ?_))
        | ((with_reducible refine Split.is_true ?_ ?_); decide; conv => whnf)
        | ((with_reducible refine Split.is_false ?_ ?_); decide; conv => whnf)
        | ((with_reducible refine Split.nez (fun _ => ?_) (fun _ => ?_)) <;> conv => whnf)
        | ((with_reducible refine Split.eqz (fun _ => ?_) (fun _ => ?_)) <;> conv => whnf)
        | ((with_reducible refine Split.and ?_))
        | ((with_reducible refine Split.or ?_))
        | ((with_reducible refine Split.streq (fun _ => ?_) (fun _ => ?_)) <;> conv => whnf)
        | ((with_reducible refine Split.dec (fun _ => ?_) (fun _ => ?_)) <;> conv => whnf)
        | ((with_reducible refine Split.mk (fun _ => ?_) (fun _ => ?_)) <;> conv => whnf)
        | ((with_reducible refine NilK.mk (fun _ => ?_) ?_) <;> conv => whnf)
        | ((with_reducible refine AltK.l ?_); (conv => whnf); (with_reducible refine Need.mk ?_ ?_); (first | omega | (refine ⟨?_, ?_⟩ <;> simp <;> omega) | (simp; omega)); conv => whnf)
        | ((with_reducible refine Need.mk ?_ ?_); (first | omega | rfl | decide | (refine ⟨?_, ?_⟩ <;> simp <;> omega) | (simp; omega)); conv => whnf)
        | ((with_reducible refine Wr.quo ?_ ?_ ?_ ?_); omega; omega; omega; conv => whnf)
        | ((with_reducible refine Wr.inr ?_ ?_); (first | omega | (simp; omega)); conv => whnf)
        | ((with_reducible refine Wr.inu ?_ ?_); omega; conv => whnf)
        | ((with_reducible refine AltK.l ?_); (conv => whnf); (first | (refine CallK.mk _ (h1) ?_) | (refine CallK.mk _ (h2) ?_) | (refine CallK.mk _ (h3) ?_)); conv => whnf)
        | (exfalso; first | omega | contradiction))
      all_goals (simp_all [retOf, iD] <;> omega)
/-- The cell of a place, -1 if there is none. -/
def cellI (g : Gr) (s : Sg) : Int := if s.x - g.x < 0 ∨ s.y - g.y < 0 ∨ g.cols * g.side ≤ s.x - g.x ∨ g.rows * g.side ≤ s.y - g.y then -1 else (s.y - g.y) / g.side * g.cols + (s.x - g.x) / g.side
theorem div_in {a b n : Int} (hb : 0 < b) (h0 : 0 ≤ a) (h : a < n * b) : 0 ≤ a / b ∧ a / b < n := ⟨Int.ediv_nonneg h0 (by omega), Int.ediv_lt_of_lt_mul hb h⟩
theorem cell_in {g : Gr} (h : FrOk g) {s : Sg} (hc : cellI g s ≠ -1) : 0 ≤ cellI g s ∧ cellI g s < g.cols * g.rows := by
  unfold cellI at *
  split at hc
  · contradiction
  · rename_i h1
    rw [if_neg h1]
    have hs := h.side
    have hco := h.cols
    obtain ⟨a1, a2⟩ := div_in (a := s.x - g.x) (b := g.side) (n := g.cols) (by omega) (by omega) (by omega)
    obtain ⟨b1, b2⟩ := div_in (a := s.y - g.y) (b := g.side) (n := g.rows) (by omega) (by omega) (by omega)
    have m1 := Int.mul_nonneg b1 (show 0 ≤ g.cols by omega)
    have m2 := Int.mul_le_mul_of_nonneg_right (show (s.y - g.y) / g.side ≤ g.rows - 1 by omega) (show 0 ≤ g.cols by omega)
    rw [Int.sub_mul, Int.one_mul, Int.mul_comm g.rows] at m2
    omega
theorem ev_cell (g : Gr) (s : Sg) (h : FrOk g) (hs : -1000000 ≤ s.x ∧ s.x ≤ 1000000 ∧ -1000000 ≤ s.y ∧ s.y ≤ 1000000) : Ev Try.prog 45 [grD g, sgD s] (.tup [iD (if cellI g s = -1 then 0 else cellI g s), .bool (decide (cellI g s ≠ -1))]) := by
  have m1 := mul_bd (x := g.cols) (y := g.side) (X := 1024) (Y := 10000) (by have := h.cols; omega) (by have := h.side; omega)
  have m2 := mul_bd (x := g.rows) (y := g.side) (X := 1024) (Y := 10000) (by have := h.rows; omega) (by have := h.side; omega)
  have hx := h.x
  have hy := h.y
  have hsd := h.side
  have hco := h.cols
  have hro := h.rows
  by_cases hin : s.x - g.x < 0 ∨ s.y - g.y < 0 ∨ g.cols * g.side ≤ s.x - g.x ∨ g.rows * g.side ≤ s.y - g.y
  · have e : cellI g s = -1 := by rw [cellI, if_pos hin]
    rw [e]
    refine ev_of_awp tysOk mixed (fn := Try.f45) Try.func45 rfl rfl rfl ?_
    conv => whnf
    repeat' (first
      | ((with_reducible refine Split.of_true ?_); conv => whnf)
      | ((with_reducible refine Split.of_false ?_); conv => whnf)
      | ((with_reducible refine Split.neg ?_))
      | ((with_reducible refine Split.is_true ?_ ?_); decide; conv => whnf)
      | ((with_reducible refine Split.is_false ?_ ?_); decide; conv => whnf)
      | ((with_reducible refine Split.nez (fun _ => ?_) (fun _ => ?_)) <;> conv => whnf)
      | ((with_reducible refine Split.eqz (fun _ => ?_) (fun _ => ?_)) <;> conv => whnf)
      | ((with_reducible refine Split.and ?_))
      | ((with_reducible refine Split.or ?_))
      | ((with_reducible refine Split.streq (fun _ => ?_) (fun _ => ?_)) <;> conv => whnf)
      | ((with_reducible refine Split.dec (fun _ => ?_) (fun _ => ?_)) <;> conv => whnf)
      | ((with_reducible refine Split.mk (fun _ => ?_) (fun _ => ?_)) <;> conv => whnf)
      | ((with_reducible refine NilK.mk (fun _ => ?_) ?_) <;> conv => whnf)
      | ((with_reducible refine AltK.l ?_); (conv => whnf); (with_reducible refine Need.mk ?_ ?_); (first | omega | (refine ⟨?_, ?_⟩ <;> simp <;> omega) | (simp; omega)); conv => whnf)
      | ((with_reducible refine Need.mk ?_ ?_); (first | omega | rfl | decide | (refine ⟨?_, ?_⟩ <;> simp <;> omega) | (simp; omega)); conv => whnf)
      | ((with_reducible refine Wr.quo ?_ ?_ ?_ ?_); omega; omega; omega; conv => whnf)
      | ((with_reducible refine Wr.inr ?_ ?_); (first | omega | (simp; omega)); conv => whnf)
      | ((with_reducible refine Wr.inu ?_ ?_); omega; conv => whnf)
      | (exfalso; first | omega | contradiction))
    all_goals rfl
  · obtain ⟨a1, a2⟩ := div_in (a := s.x - g.x) (b := g.side) (n := g.cols) (by omega) (by omega) (by omega)
    obtain ⟨b1, b2⟩ := div_in (a := s.y - g.y) (b := g.side) (n := g.rows) (by omega) (by omega) (by omega)
    have m3 := mul_bd (x := (s.y - g.y) / g.side) (y := g.cols) (X := 1024) (Y := 1024) (by omega) (by omega)
    have m4 := Int.mul_nonneg b1 (show 0 ≤ g.cols by omega)
    have e : cellI g s = (s.y - g.y) / g.side * g.cols + (s.x - g.x) / g.side := by rw [cellI, if_neg hin]
    have e2 : cellI g s ≠ -1 := by omega
    rw [if_neg e2, decide_eq_true e2, e]
    refine ev_of_awp tysOk mixed (fn := Try.f45) Try.func45 rfl rfl rfl ?_
    conv => whnf
    repeat' (first
      | ((with_reducible refine Split.of_true ?_); conv => whnf)
      | ((with_reducible refine Split.of_false ?_); conv => whnf)
      | ((with_reducible refine Split.neg ?_))
      | ((with_reducible refine Split.is_true ?_ ?_); decide; conv => whnf)
      | ((with_reducible refine Split.is_false ?_ ?_); decide; conv => whnf)
      | ((with_reducible refine Split.nez (fun _ => ?_) (fun _ => ?_)) <;> conv => whnf)
      | ((with_reducible refine Split.eqz (fun _ => ?_) (fun _ => ?_)) <;> conv => whnf)
      | ((with_reducible refine Split.and ?_))
      | ((with_reducible refine Split.or ?_))
      | ((with_reducible refine Split.streq (fun _ => ?_) (fun _ => ?_)) <;> conv => whnf)
      | ((with_reducible refine Split.dec (fun _ => ?_) (fun _ => ?_)) <;> conv => whnf)
      | ((with_reducible refine Split.mk (fun _ => ?_) (fun _ => ?_)) <;> conv => whnf)
      | ((with_reducible refine NilK.mk (fun _ => ?_) ?_) <;> conv => whnf)
      | ((with_reducible refine AltK.l ?_); (conv => whnf); (with_reducible refine Need.mk ?_ ?_); (first | omega | (refine ⟨?_, ?_⟩ <;> simp <;> omega) | (simp; omega)); conv => whnf)
      | ((with_reducible refine Need.mk ?_ ?_); (first | omega | rfl | decide | (refine ⟨?_, ?_⟩ <;> simp <;> omega) | (simp; omega)); conv => whnf)
      | ((with_reducible refine Wr.quo ?_ ?_ ?_ ?_); omega; omega; omega; conv => whnf)
      | ((with_reducible refine Wr.inr ?_ ?_); (first | omega | (simp; omega)); conv => whnf)
      | ((with_reducible refine Wr.inu ?_ ?_); omega; conv => whnf)
      | (exfalso; first | omega | contradiction))
    all_goals rfl
theorem cell_xy (g : Gr) (s : Sg) : cellI g ⟨0, s.x, s.y, 0, 0⟩ = cellI g s := rfl
def repE (v : Int) (n m : Nat) : List D := List.replicate m (iD v) ++ List.replicate (n - m) (D.int .i64 0)
theorem repE_len (v : Int) {n m : Nat} (h : m ≤ n) : (repE v n m).length = n := by simp [repE]; omega
theorem rep_first (v : Int) {n : Nat} (h : 1 ≤ n) : cpy (List.replicate n (D.int .i64 0)) 0 (n - 0) [iD v] = repE v n 1 := by
  simp only [cpy, repE, List.take_zero, List.nil_append, List.drop_replicate]
  rw [show min (n - 0) [iD v].length = 1 by simp; omega, List.take_of_length_le (by simp; omega)]
  simp
theorem rep_step (v : Int) {n m : Nat} (_h : m < n) : cpy (repE v n m) m (n - m) (((repE v n m).take m).drop 0) = repE v n (m + min (n - m) m) := by
  have e1 : (repE v n m).take m = List.replicate m (iD v) := by simp [repE]
  have e2 : ∀ k, m ≤ k → (repE v n m).drop k = List.replicate (n - k) (D.int .i64 0) := by
    intro k hk
    rw [repE, List.drop_append, List.drop_replicate, List.drop_replicate, List.length_replicate]
    rw [show m - k = 0 by omega, show n - m - (k - m) = n - k by omega]; rfl
  rw [cpy, e1, List.drop_zero, List.length_replicate, e2 _ (by omega), List.take_replicate, repE, List.replicate_append_replicate]
theorem xv_Repeat (v : Int) (n : Nat) (hn : 1 ≤ n ∧ n ≤ 1024) : EvX Try.prog 46 [.own 1000 1 1, .d (iD n)] [(1000, .row 3 1 [iD v] false)] (.own 9 1 n) [(1000, .row 3 1 [iD v] false), (9, .row 3 1 (List.replicate n (iD v)) false)] := by
  have h1 := ev_MulU 1 n (by omega) (by omega) (by omega)
  rw [Int.one_mul] at h1
  refine evx_of_awp tysOk mixed (fn := Try.f46) Try.func46 rfl rfl rfl ?_
  conv => whnf
  repeat' (first
    | ((with_reducible refine Wr.inu (by first | omega | simp) ?_); conv => whnf)
    | ((with_reducible refine Split.of_true ?_); conv => whnf)
    | ((with_reducible refine Split.of_false ?_); conv => whnf)
    | ((with_reducible refine Split.neg ?_))
    | ((with_reducible refine Split.is_true ?_ ?_); decide; conv => whnf)
    | ((with_reducible refine Split.is_false ?_ ?_); decide; conv => whnf)
    | ((with_reducible refine Split.nez (fun _ => ?_) (fun _ => ?_)) <;> conv => whnf)
    | ((with_reducible refine Split.eqz (fun _ => ?_) (fun _ => ?_)) <;> conv => whnf)
    | ((with_reducible refine Split.and ?_))
    | ((with_reducible refine Split.or ?_))
    | ((with_reducible refine Split.streq (fun _ => ?_) (fun _ => ?_)) <;> conv => whnf)
    | ((with_reducible refine Split.dec (fun _ => ?_) (fun _ => ?_)) <;> conv => whnf)
    | ((with_reducible refine Split.mk (fun _ => ?_) (fun _ => ?_)) <;> conv => whnf)
    | ((with_reducible refine NilK.mk (fun _ => ?_) ?_) <;> conv => whnf)
    | ((with_reducible refine AltK.l ?_); (conv => whnf); (with_reducible refine Need.mk ?_ ?_); (first | omega | (refine ⟨?_, ?_⟩ <;> simp <;> omega) | (simp; omega)); conv => whnf)
    | ((with_reducible refine Need.mk ?_ ?_); (first | omega | rfl | decide | (refine ⟨?_, ?_⟩ <;> simp <;> omega) | (simp; omega)); conv => whnf)
    | ((with_reducible refine Wr.quo ?_ ?_ ?_ ?_); omega; omega; omega; conv => whnf)
    | ((with_reducible refine Wr.inr ?_ ?_); (first | omega | (simp; omega)); conv => whnf)
    | ((with_reducible refine Wr.inu ?_ ?_); omega; conv => whnf)
    | ((with_reducible refine AltK.l ?_); (conv => whnf); (first | (refine CallK.mk _ (h1) ?_)); conv => whnf)
    | (exfalso; first | omega | contradiction))
  have hmp1 : cpy (List.replicate ((n : Int)).toNat (D.int .i64 0)) 0 ((List.replicate ((n : Int)).toNat (D.int .i64 0)).length - 0) [iD v] = repE v n 1 := by
    rw [Int.toNat_natCast, List.length_replicate]; exact rep_first v hn.1
  refine LoopK.o2 (fun m : Nat => 1 ≤ m ∧ m ≤ n) (fun m => [(8, .d (.int .i64 m))]) (fun m => [(30, .row 3 1 (repE v n m) false)]) (fun m => n - m) 1 ⟨by omega, by omega⟩ (by refine ⟨?_, ?_, rfl⟩ <;> (repeat' (first | exact True.intro | exact rfl | refine ⟨?_, ?_⟩ | (intro h; cases h; done) | (intro h; exact h) | exact map_snoc | (refine own_congr ?_; simp; done) | (refine int_congr ?_; (first | omega | (simp; omega))) | (simp; done) | exact hmp1 | ((first | refine own_congr ?_ | refine int_congr ?_ | skip); simp [D.cells]; done) | ((first | refine own_congr ?_ | refine int_congr ?_); simp [D.cells]; omega) | (show @Eq (List Go.Vm.D) _ []; simp [D.cells]; done) | (simp [D.cells, D.cells]; done)))) ?_
  rintro m ⟨hm1, hm2⟩
  have hl := repE_len v hm2
  by_cases hmn : m < n
  · conv => whnf
    repeat' (first
      | ((with_reducible refine Split.of_true ?_); conv => whnf)
      | ((with_reducible refine Split.of_false ?_); conv => whnf)
      | ((with_reducible refine Split.neg ?_))
      | ((with_reducible refine Split.is_true ?_ ?_); decide; conv => whnf)
      | ((with_reducible refine Split.is_false ?_ ?_); decide; conv => whnf)
      | ((with_reducible refine Split.nez (fun _ => ?_) (fun _ => ?_)) <;> conv => whnf)
      | ((with_reducible refine Split.eqz (fun _ => ?_) (fun _ => ?_)) <;> conv => whnf)
      | ((with_reducible refine Split.and ?_))
      | ((with_reducible refine Split.or ?_))
      | ((with_reducible refine Split.streq (fun _ => ?_) (fun _ => ?_)) <;> conv => whnf)
      | ((with_reducible refine Split.dec (fun _ => ?_) (fun _ => ?_)) <;> conv => whnf)
      | ((with_reducible refine Split.mk (fun _ => ?_) (fun _ => ?_)) <;> conv => whnf)
      | ((with_reducible refine NilK.mk (fun _ => ?_) ?_) <;> conv => whnf)
      | ((with_reducible refine Need.mk ?_ ?_); (first | omega | rfl | decide | (refine ⟨?_, ?_⟩ <;> simp <;> omega) | (simp; omega)); conv => whnf)
      | ((with_reducible refine Wr.quo ?_ ?_ ?_ ?_); omega; omega; omega; conv => whnf)
      | ((with_reducible refine Wr.inr ?_ ?_); (first | omega | (simp; omega)); conv => whnf)
      | ((with_reducible refine Wr.inu ?_ ?_); omega; conv => whnf)
      | (exfalso; first | omega | contradiction))
    refine AltK.r (AltK.l ?_)
    conv => whnf
    conv => whnf
    repeat' (first
      | ((with_reducible refine Split.of_true ?_); conv => whnf)
      | ((with_reducible refine Split.of_false ?_); conv => whnf)
      | ((with_reducible refine Split.neg ?_))
      | ((with_reducible refine Split.is_true ?_ ?_); decide; conv => whnf)
      | ((with_reducible refine Split.is_false ?_ ?_); decide; conv => whnf)
      | ((with_reducible refine Split.nez (fun _ => ?_) (fun _ => ?_)) <;> conv => whnf)
      | ((with_reducible refine Split.eqz (fun _ => ?_) (fun _ => ?_)) <;> conv => whnf)
      | ((with_reducible refine Split.and ?_))
      | ((with_reducible refine Split.or ?_))
      | ((with_reducible refine Split.streq (fun _ => ?_) (fun _ => ?_)) <;> conv => whnf)
      | ((with_reducible refine Split.dec (fun _ => ?_) (fun _ => ?_)) <;> conv => whnf)
      | ((with_reducible refine Split.mk (fun _ => ?_) (fun _ => ?_)) <;> conv => whnf)
      | ((with_reducible refine NilK.mk (fun _ => ?_) ?_) <;> conv => whnf)
      | ((with_reducible refine Need.mk ?_ ?_); (first | omega | rfl | decide | (refine ⟨?_, ?_⟩ <;> simp <;> omega) | (simp; omega)); conv => whnf)
      | ((with_reducible refine Wr.quo ?_ ?_ ?_ ?_); omega; omega; omega; conv => whnf)
      | ((with_reducible refine Wr.inr ?_ ?_); (first | omega | (simp; omega)); conv => whnf)
      | ((with_reducible refine Wr.inu ?_ ?_); omega; conv => whnf)
      | (exfalso; first | omega | contradiction))
    refine AltK.r (AltK.l ?_)
    conv => whnf
    conv => whnf
    repeat' (first
      | ((with_reducible refine Split.of_true ?_); conv => whnf)
      | ((with_reducible refine Split.of_false ?_); conv => whnf)
      | ((with_reducible refine Split.neg ?_))
      | ((with_reducible refine Split.is_true ?_ ?_); decide; conv => whnf)
      | ((with_reducible refine Split.is_false ?_ ?_); decide; conv => whnf)
      | ((with_reducible refine Split.nez (fun _ => ?_) (fun _ => ?_)) <;> conv => whnf)
      | ((with_reducible refine Split.eqz (fun _ => ?_) (fun _ => ?_)) <;> conv => whnf)
      | ((with_reducible refine Split.and ?_))
      | ((with_reducible refine Split.or ?_))
      | ((with_reducible refine Split.streq (fun _ => ?_) (fun _ => ?_)) <;> conv => whnf)
      | ((with_reducible refine Split.dec (fun _ => ?_) (fun _ => ?_)) <;> conv => whnf)
      | ((with_reducible refine Split.mk (fun _ => ?_) (fun _ => ?_)) <;> conv => whnf)
      | ((with_reducible refine NilK.mk (fun _ => ?_) ?_) <;> conv => whnf)
      | ((with_reducible refine Need.mk ?_ ?_); (first | omega | rfl | decide | (refine ⟨?_, ?_⟩ <;> simp <;> omega) | (simp; omega)); conv => whnf)
      | ((with_reducible refine Wr.quo ?_ ?_ ?_ ?_); omega; omega; omega; conv => whnf)
      | ((with_reducible refine Wr.inr ?_ ?_); (first | omega | (simp; omega)); conv => whnf)
      | ((with_reducible refine Wr.inu ?_ ?_); omega; conv => whnf)
      | (exfalso; first | omega | contradiction))
    have hmin : min (((repE v n m).length : Int).toNat - (m : Int).toNat) (((repE v n m).take (m : Int).toNat).drop (Int.toNat 0)).length = min (n - m) m := by
      rw [Int.toNat_natCast, Int.toNat_natCast, hl, show Int.toNat 0 = 0 from rfl, List.drop_zero, List.length_take, hl, Nat.min_eq_left hm2]
    have hmp3 : cpy (repE v n m) (m : Int).toNat (((repE v n m).length : Int).toNat - (m : Int).toNat) (((repE v n m).take (m : Int).toNat).drop (Int.toNat 0)) = repE v n (m + min (n - m) m) := by
      rw [Int.toNat_natCast, Int.toNat_natCast, hl]; exact rep_step v hmn
    have hmp4 : AV.d (.int .i64 ((m : Int) + ((min (((repE v n m).length : Int).toNat - (m : Int).toNat) (((repE v n m).take (m : Int).toNat).drop (Int.toNat 0)).length : Nat) : Int))) = AV.d (.int .i64 ((m + min (n - m) m : Nat) : Int)) := by
      rw [hmin]; congr 2
    exact Again.au (m + min (n - m) m) ⟨by omega, by omega⟩ (by omega) (by refine ⟨?_, ?_, rfl⟩ <;> (repeat' (first | exact True.intro | exact rfl | refine ⟨?_, ?_⟩ | (intro h; cases h; done) | (intro h; exact h) | exact map_snoc | (refine own_congr ?_; simp; done) | (refine int_congr ?_; (first | omega | (simp; omega))) | (simp; done) | exact hmp3 | exact hmp4 | ((first | refine own_congr ?_ | refine int_congr ?_ | skip); simp [D.cells]; done) | ((first | refine own_congr ?_ | refine int_congr ?_); simp [D.cells]; omega) | (show @Eq (List Go.Vm.D) _ []; simp [D.cells]; done) | (simp [D.cells, D.cells]; done))))
  · conv => whnf
    repeat' (first
      | ((with_reducible refine Split.of_true ?_); conv => whnf)
      | ((with_reducible refine Split.of_false ?_); conv => whnf)
      | ((with_reducible refine Split.neg ?_))
      | ((with_reducible refine Split.is_true ?_ ?_); decide; conv => whnf)
      | ((with_reducible refine Split.is_false ?_ ?_); decide; conv => whnf)
      | ((with_reducible refine Split.nez (fun _ => ?_) (fun _ => ?_)) <;> conv => whnf)
      | ((with_reducible refine Split.eqz (fun _ => ?_) (fun _ => ?_)) <;> conv => whnf)
      | ((with_reducible refine Split.and ?_))
      | ((with_reducible refine Split.or ?_))
      | ((with_reducible refine Split.streq (fun _ => ?_) (fun _ => ?_)) <;> conv => whnf)
      | ((with_reducible refine Split.dec (fun _ => ?_) (fun _ => ?_)) <;> conv => whnf)
      | ((with_reducible refine Split.mk (fun _ => ?_) (fun _ => ?_)) <;> conv => whnf)
      | ((with_reducible refine NilK.mk (fun _ => ?_) ?_) <;> conv => whnf)
      | ((with_reducible refine AltK.l ?_); (conv => whnf); (with_reducible refine Need.mk ?_ ?_); (first | omega | (refine ⟨?_, ?_⟩ <;> simp <;> omega) | (simp; omega)); conv => whnf)
      | ((with_reducible refine Need.mk ?_ ?_); (first | omega | rfl | decide | (refine ⟨?_, ?_⟩ <;> simp <;> omega) | (simp; omega)); conv => whnf)
      | ((with_reducible refine Wr.quo ?_ ?_ ?_ ?_); omega; omega; omega; conv => whnf)
      | ((with_reducible refine Wr.inr ?_ ?_); (first | omega | (simp; omega)); conv => whnf)
      | ((with_reducible refine Wr.inu ?_ ?_); omega; conv => whnf)
      | (exfalso; first | omega | contradiction))
    have e : m = n := by omega
    subst e
    have hmp5 : repE v m m = List.replicate m (iD v) := by simp [repE]
    exact ⟨⟨[(9, some 30)], (by refine ⟨?_, ?_, rfl⟩ <;> (repeat' (first | exact True.intro | exact rfl | refine ⟨?_, ?_⟩ | (intro h; cases h; done) | (intro h; exact h) | exact map_snoc | (refine own_congr ?_; simp; done) | (refine int_congr ?_; (first | omega | (simp; omega))) | (simp; done) | exact hmp5 | ((first | refine own_congr ?_ | refine int_congr ?_ | skip); simp [D.cells]; done) | ((first | refine own_congr ?_ | refine int_congr ?_); simp [D.cells]; omega) | (show @Eq (List Go.Vm.D) _ []; simp [D.cells]; done) | (simp [D.cells, D.cells]; done))))⟩, rfl⟩
end Go.Proofs.Try
end

section
namespace Go.Proofs.Try
open Go Go.Vm Go.Sort
set_option maxRecDepth 20000
set_option maxHeartbeats 4000000
/-! Binning: the greatest value of each cell. -/
def zget (es : List (Int × Int)) (k : Int) : Option Int := match es with
  | [] => none
  | p :: r => if k = p.1 then some p.2 else zget r k
def zput : List (Int × Int) → Int → Int → List (Int × Int)
  | [], k, x => [(k, x)]
  | p :: r, k, x => if k = p.1 then (k, x) :: r else p :: zput r k x
def zD (es : List (Int × Int)) : List (D × D) := es.map fun p => (iD p.1, iD p.2)
theorem mget_z (k : Int) : ∀ es : List (Int × Int), mget (zD es) (iD k) = (zget es k).map iD
  | [] => rfl
  | p :: r => by
    have ih := mget_z k r
    simp only [zD, List.map_cons] at ih ⊢
    rw [mget, ih, zget]
    by_cases h : k = p.1 <;> simp [keyEq, iD, h]
theorem mput_z (k x : Int) : ∀ es : List (Int × Int), mput (zD es) (iD k) (iD x) = zD (zput es k x)
  | [] => rfl
  | p :: r => by
    have ih := mput_z k x r
    simp only [zD, List.map_cons] at ih ⊢
    rw [mput, ih, zput]
    by_cases h : k = p.1 <;> simp [keyEq, iD, h]
theorem zget_put (k x j : Int) : ∀ es : List (Int × Int), zget (zput es k x) j = if j = k then some x else zget es j
  | [] => by simp only [zput, zget]
  | p :: r => by
    have ih := zget_put k x j r
    rw [zput]
    by_cases h : k = p.1
    · rw [if_pos h, zget, zget, h]
      split <;> rfl
    · rw [if_neg h, zget, zget, ih]
      by_cases h2 : j = p.1
      · subst h2; rw [if_pos rfl, if_pos rfl, if_neg (Ne.symm h)]
      · rw [if_neg h2, if_neg h2]
theorem zput_keys (k x : Int) : ∀ es : List (Int × Int), ∀ p ∈ zput es k x, p.1 = k ∨ p.1 ∈ es.map Prod.fst
  | [], p, h => by simp [zput] at h; left; rw [h]
  | q :: r, p, h => by
    rw [zput] at h
    split at h
    · rcases List.mem_cons.1 h with rfl | h
      · exact .inl rfl
      · right; simp; right; exact ⟨p.2, h⟩
    · rcases List.mem_cons.1 h with rfl | h
      · right; simp
      · rcases zput_keys k x r p h with h | h
        · exact .inl h
        · right; rw [List.map_cons]; exact List.mem_cons_of_mem _ h
theorem zput_nodup (k x : Int) : ∀ es : List (Int × Int), es.Pairwise (fun a b => a.1 ≠ b.1) → (zput es k x).Pairwise fun a b => a.1 ≠ b.1
  | [], _ => by simp [zput]
  | p :: r, h => by
    obtain ⟨h1, h2⟩ := List.pairwise_cons.1 h
    rw [zput]
    split
    · rename_i e
      exact List.pairwise_cons.2 ⟨fun q hq => by rw [e]; exact h1 q hq, h2⟩
    · rename_i e
      refine List.pairwise_cons.2 ⟨fun q hq => ?_, zput_nodup k x r h2⟩
      rcases zput_keys k x r q hq with h3 | h3
      · rw [h3]; exact Ne.symm e
      · obtain ⟨t, ht, e2⟩ := List.mem_map.1 h3
        rw [← e2]; exact h1 t ht
theorem zget_mem : ∀ {es : List (Int × Int)}, es.Pairwise (fun a b => a.1 ≠ b.1) → ∀ p ∈ es, zget es p.1 = some p.2
  | [], _, p, h => by cases h
  | q :: r, h, p, hp => by
    obtain ⟨h1, h2⟩ := List.pairwise_cons.1 h
    rw [zget]
    rcases List.mem_cons.1 hp with rfl | hp
    · rw [if_pos rfl]
    · rw [if_neg (Ne.symm (h1 p hp))]; exact zget_mem h2 p hp
theorem zget_some : ∀ {es : List (Int × Int)} {k x : Int}, zget es k = some x → (k, x) ∈ es
  | [], k, x, h => by cases h
  | q :: r, k, x, h => by
    rw [zget] at h
    split at h
    · rename_i e; cases h; rw [e]; exact List.mem_cons_self
    · exact List.mem_cons_of_mem _ (zget_some h)
def bnStep (g : Gr) (v : Sg → Int) (es : List (Int × Int)) (s : Sg) : List (Int × Int) := if cellI g s = -1 then es else match zget es (cellI g s) with
  | some o => if v s > o then zput es (cellI g s) (v s) else es
  | none => zput es (cellI g s) (v s)
def bnS (g : Gr) (v : Sg → Int) (m : List Sg) : List (Int × Int) := m.foldl (bnStep g v) []
def mxStep (g : Gr) (v : Sg → Int) (i : Int) (o : Option Int) (s : Sg) : Option Int := if cellI g s = i then (match o with
  | some x => some (if v s > x then v s else x)
  | none => some (v s)) else o
def maxO (g : Gr) (v : Sg → Int) (m : List Sg) (i : Int) : Option Int := m.foldl (mxStep g v i) none
theorem bn_snoc (g : Gr) (v : Sg → Int) {m : List Sg} {i : Nat} {s : Sg} (h : m[i]? = some s) : bnS g v (m.take (i + 1)) = bnStep g v (bnS g v (m.take i)) s := by
  rw [bnS, take_snoc h, List.foldl_append]; rfl
structure BnOk (g : Gr) (v : Sg → Int) (m : List Sg) : Prop where
  get : ∀ i, i ≠ -1 → zget (bnS g v m) i = maxO g v m i
  nod : (bnS g v m).Pairwise fun a b => a.1 ≠ b.1
  key : ∀ p ∈ bnS g v m, ∃ s ∈ m, p.1 = cellI g s ∧ cellI g s ≠ -1
theorem bn_ok (g : Gr) (v : Sg → Int) (m : List Sg) : BnOk g v m := by
  refine list_snoc (P := BnOk g v) ⟨fun _ _ => rfl, .nil, fun p h => (by cases h)⟩ (fun m s ih => ?_) m
  have e1 : bnS g v (m ++ [s]) = bnStep g v (bnS g v m) s := by rw [bnS, List.foldl_append]; rfl
  have e2 : ∀ i, maxO g v (m ++ [s]) i = mxStep g v i (maxO g v m i) s := fun i => by rw [maxO, List.foldl_append]; rfl
  obtain ⟨h1, h2, h3⟩ := ih
  have h3' : ∀ p ∈ bnS g v m, ∃ t ∈ m ++ [s], p.1 = cellI g t ∧ cellI g t ≠ -1 := fun p hp => by
    obtain ⟨t, ht, h⟩ := h3 p hp
    exact ⟨t, List.mem_append_left _ ht, h⟩
  have hput : cellI g s ≠ -1 → ∀ p ∈ zput (bnS g v m) (cellI g s) (v s), ∃ t ∈ m ++ [s], p.1 = cellI g t ∧ cellI g t ≠ -1 := by
    intro hc p hp
    rcases zput_keys _ _ _ p hp with h | h
    · exact ⟨s, by simp, h, hc⟩
    · obtain ⟨q, hq, e⟩ := List.mem_map.1 h
      rw [← e]; exact h3' q hq
  constructor
  · intro i hi
    rw [e1, e2, bnStep]
    unfold mxStep
    by_cases hc : cellI g s = -1
    · rw [if_pos hc, if_neg (by omega), h1 i hi]
    · rw [if_neg hc]
      have hz := h1 (cellI g s) hc
      by_cases hci : cellI g s = i
      · rw [if_pos hci]
        subst hci
        rw [← hz]
        cases hq : zget (bnS g v m) (cellI g s) with
        | none => simp only [zget_put, if_pos]
        | some o =>
          simp only
          split
          · rw [zget_put, if_pos rfl]
          · exact hq
      · rw [if_neg hci, ← h1 i hi]
        cases hq : zget (bnS g v m) (cellI g s) with
        | none => simp only [zget_put]; rw [if_neg (Ne.symm hci)]
        | some o =>
          simp only
          split
          · rw [zget_put, if_neg (Ne.symm hci)]
          · rfl
  · rw [e1, bnStep]
    repeat' split
    all_goals first | exact h2 | exact zput_nodup _ _ _ h2
  · rw [e1, bnStep]
    split
    · exact h3'
    · rename_i hc
      repeat' split
      all_goals first | exact hput hc | exact h3'
def cellsN (g : Gr) : Nat := (g.cols * g.rows).toNat
def levS (g : Gr) (v : Sg → Int) (l : List Sg) : List Int := (List.range (cellsN g)).map fun i : Nat => (maxO g v l (i : Int)).getD 30000
def badO : Option Int → Bool
  | some x => outsideB x (-20000) 20000
  | none => false
def badS (g : Gr) (v : Sg → Int) (l : List Sg) : Bool := (List.range (cellsN g)).any fun i : Nat => badO (maxO g v l (i : Int))
def gr0 : Gr := ⟨0, 0, 0, 0, 0, []⟩
def binRes (g : Gr) (v : Sg → Int) (l : List Sg) : Gr × Int := if chkErr sgB Sg.n l ≠ 0 then (gr0, chkErr sgB Sg.n l) else if frErr g ≠ 0 then (gr0, frErr g) else if badS g v l = true then (gr0, 2) else ({ g with lv := levS g v l }, 0)
def grE (x : Gr × Int) : D := .tup [grD x.1, iD x.2]
theorem bad_lv {g : Gr} {v : Sg → Int} {l : List Sg} (hF : FrOk g) : badS g v l = (bnS g v l).any fun p => outsideB p.2 (-20000) 20000 := by
  obtain ⟨h1, h2, h3⟩ := bn_ok g v l
  rw [Bool.eq_iff_iff, badS, List.any_eq_true, List.any_eq_true]
  constructor
  · rintro ⟨i, hi, hb⟩
    rw [← h1 i (by omega)] at hb
    cases hz : zget (bnS g v l) i with
    | none => rw [hz] at hb; cases hb
    | some x => rw [hz] at hb; exact ⟨_, zget_some hz, hb⟩
  · rintro ⟨p, hp, hb⟩
    obtain ⟨s, _, e, hc⟩ := h3 p hp
    have hin := cell_in hF hc
    refine ⟨p.1.toNat, by rw [List.mem_range]; unfold cellsN; omega, ?_⟩
    have e2 : ((p.1.toNat : Nat) : Int) = p.1 := by omega
    rw [e2, ← h1 p.1 (by omega), zget_mem h2 p hp]
    exact hb
def rowOf (lv : List (Int × Int)) (n : Nat) (seen : List Nat) : List Int := seen.foldr (fun j row => match lv[j]? with
  | some p => row.set p.1.toNat p.2
  | none => row) (List.replicate n 30000)
theorem rowOf_len (lv : List (Int × Int)) (n : Nat) : ∀ seen, (rowOf lv n seen).length = n
  | [] => by simp [rowOf]
  | j :: seen => by
    have := rowOf_len lv n seen
    rw [rowOf, List.foldr_cons]
    rw [rowOf] at this
    split <;> simp [this]
theorem rowOf_get {lv : List (Int × Int)} {n : Nat} (hk : ∀ p ∈ lv, 0 ≤ p.1) {i : Nat} (hi : i < n) : ∀ seen, (rowOf lv n seen)[i]? = some (match (seen.filterMap fun j => lv[j]?).find? (fun p => p.1 == (i : Int)) with
    | some p => p.2
    | none => 30000)
  | [] => by simp [rowOf, hi]
  | j :: seen => by
    have ih := rowOf_get hk hi seen
    have hl := rowOf_len lv n seen
    rw [rowOf, List.foldr_cons]
    rw [rowOf] at ih hl
    cases hj : lv[j]? with
    | none => simp only [List.filterMap_cons, hj]; exact ih
    | some p =>
      have h0 := hk p (List.mem_of_getElem? hj)
      simp only [List.filterMap_cons, hj, List.find?_cons]
      by_cases e : p.1 = (i : Int)
      · have e2 : p.1.toNat = i := by omega
        have e3 : (p.1 == (i : Int)) = true := by simpa using e
        rw [e3, e2, List.getElem?_set]; simp [hl, hi]
      · have e2 : p.1.toNat ≠ i := by omega
        have e3 : (p.1 == (i : Int)) = false := by simpa using e
        rw [e3, List.getElem?_set_ne e2]; exact ih
theorem rowOf_all {g : Gr} {v : Sg → Int} {l : List Sg} (hF : FrOk g) {seen : List Nat} (h : ∀ j, j < (bnS g v l).length → j ∈ seen) : rowOf (bnS g v l) (cellsN g) seen = levS g v l := by
  obtain ⟨h1, h2, h3⟩ := bn_ok g v l
  have hk : ∀ p ∈ bnS g v l, 0 ≤ p.1 := fun p hp => by
    obtain ⟨s, _, e, hc⟩ := h3 p hp
    have := cell_in hF hc
    omega
  apply List.ext_getElem?
  intro i
  by_cases hi : i < cellsN g
  · rw [rowOf_get hk hi, levS, List.getElem?_map, List.getElem?_range hi, Option.map_some]
    congr 1
    rw [← h1 i (by omega)]
    cases hf : (seen.filterMap fun j => (bnS g v l)[j]?).find? fun p => p.1 == (i : Int) with
    | some p =>
      have hm := List.mem_of_find?_eq_some hf
      have he : p.1 = i := by simpa using List.find?_some hf
      obtain ⟨j, _, hj⟩ := List.mem_filterMap.1 hm
      rw [← he, zget_mem h2 p (List.mem_of_getElem? hj)]; rfl
    | none =>
      cases hz : zget (bnS g v l) i with
      | none => rfl
      | some x =>
        have hx := zget_some hz
        obtain ⟨j, hj, e⟩ := List.getElem_of_mem hx
        have := List.find?_eq_none.1 hf ((i : Int), x) (List.mem_filterMap.2 ⟨j, h j hj, by rw [List.getElem?_eq_getElem hj, e]⟩)
        simp at this
  · rw [List.getElem?_eq_none (by rw [rowOf_len]; omega), List.getElem?_eq_none (by rw [levS, List.length_map, List.length_range]; omega)]
end Go.Proofs.Try
end

section
namespace Go.Proofs.Try
open Go Go.Vm Go.Sort
set_option maxRecDepth 20000
set_option maxHeartbeats 8000000
/-! Right thinnings. -/
/-- What is kept so far: in order, out of the sheet, under the numbers that were read. -/
structure KOk (l : List Sg) (k : List Int) (i : Nat) (o : List Sg) : Prop where
  nums : o.map Sg.n = k.take i
  sub : ∀ s ∈ o, s ∈ l
  up : o.Pairwise fun a b => a.n < b.n
theorem KOk.len {l : List Sg} {k : List Int} {i : Nat} {o : List Sg} (h : KOk l k i o) : o.length = min i k.length := by
  have := congrArg List.length h.nums
  rwa [List.length_map, List.length_take] at this
theorem nodup_len : ∀ (n : Nat) (l : List Nat), l.Nodup → (∀ x ∈ l, x < n) → l.length ≤ n
  | 0, l, _, h => by
    cases l with
    | nil => simp
    | cons a r => have := h a (by simp); omega
  | n + 1, l, hn, h => by
    by_cases hm : n ∈ l
    · have := nodup_len n (l.erase n) (hn.erase n) fun x hx => by
        have h1 := h x (List.mem_of_mem_erase hx)
        have h2 : x ≠ n := ((hn.mem_erase_iff).1 hx).1
        omega
      rw [List.length_erase_of_mem hm] at this
      omega
    · have := nodup_len n l hn fun x hx => by
        have h1 := h x hx
        have : x ≠ n := by rintro rfl; exact hm hx
        omega
      omega
end Go.Proofs.Try
end

section
namespace Go.Proofs.Try
open Go Go.Vm Go.Sort
set_option maxRecDepth 20000
set_option maxHeartbeats 8000000
/-! Binning, walked. -/
theorem zD_len (es : List (Int × Int)) : (zD es).length = es.length := List.length_map _
theorem zD_get {es : List (Int × Int)} {j : Nat} {p : D × D} (h : (zD es)[j]? = some p) : ∃ q, es[j]? = some q ∧ p = (iD q.1, iD q.2) := by
  rw [zD, List.getElem?_map, Option.map_eq_some_iff] at h
  obtain ⟨q, h1, rfl⟩ := h
  exact ⟨q, h1, rfl⟩
theorem ev_binned (l : List Sg) (g : Gr) (f : Nat) (caps : List D) (v : Sg → Int) (hf : ∀ s ∈ l, Ev Try.prog f ([sgD s] ++ caps) (iD (v s))) : Ev Try.prog 20 [.sl 5 (l.map sgD), grD g, .fn f caps] (grE (binRes g v l)) := by
  have hlen : (l.map sgD).length = l.length := List.length_map _
  have h1 := ev_CheckS l
  have h2 := ev_checkCells g
  unfold binRes
  by_cases c0 : chkErr sgB Sg.n l = 0
  · rw [if_neg (by simpa using c0)]
    rw [c0] at h1
    obtain ⟨hl5, hall, hu⟩ := chk_zero c0
    by_cases f0 : frErr g = 0
    · rw [if_neg (by simpa using f0)]
      rw [f0] at h2
      have hF := fr_ok f0
      refine ev_of_awp tysOk mixed (fn := Try.f20) Try.func20 rfl rfl rfl ?_
      conv => whnf
      repeat' (first
        | ((with_reducible refine Split.of_true ?_); conv => whnf)
        | ((with_reducible refine Split.of_false ?_); conv => whnf)
        | ((with_reducible refine Split.neg ?_))
        | ((with_reducible refine Split.is_true ?_ ?_); decide; conv => whnf)
        | ((with_reducible refine Split.is_false ?_ ?_); decide; conv => whnf)
        | ((with_reducible refine Split.nez (fun _ => ?_) (fun _ => ?_)) <;> conv => whnf)
        | ((with_reducible refine Split.eqz (fun _ => ?_) (fun _ => ?_)) <;> conv => whnf)
        | ((with_reducible refine Split.and ?_))
        | ((with_reducible refine Split.or ?_))
        | ((with_reducible refine Split.streq (fun _ => ?_) (fun _ => ?_)) <;> conv => whnf)
        | ((with_reducible refine Split.dec (fun _ => ?_) (fun _ => ?_)) <;> conv => whnf)
        | ((with_reducible refine Split.mk (fun _ => ?_) (fun _ => ?_)) <;> conv => whnf)
        | ((with_reducible refine NilK.mk (fun _ => ?_) ?_) <;> conv => whnf)
        | ((with_reducible refine AltK.l ?_); (conv => whnf); (with_reducible refine Need.mk ?_ ?_); (first | omega | (refine ⟨?_, ?_⟩ <;> simp <;> omega) | (simp; omega)); conv => whnf)
        | ((with_reducible refine Need.mk ?_ ?_); (first | omega | rfl | decide | (refine ⟨?_, ?_⟩ <;> simp <;> omega) | (simp; omega)); conv => whnf)
        | ((with_reducible refine Wr.quo ?_ ?_ ?_ ?_); omega; omega; omega; conv => whnf)
        | ((with_reducible refine Wr.inr ?_ ?_); (first | omega | (simp; omega)); conv => whnf)
        | ((with_reducible refine Wr.inu ?_ ?_); omega; conv => whnf)
        | ((with_reducible refine AltK.l ?_); (conv => whnf); (first | (refine CallK.mk _ (h1) ?_) | (refine CallK.mk _ (h2) ?_)); conv => whnf)
        | (exfalso; first | omega | contradiction))
      refine LoopK.o2 (fun i : Nat => i ≤ l.length) (fun i => [(34, .d (.int .i64 i))]) (fun i => [(31, .map 3 3 (.int .i64) (zD (bnS g v (l.take i))))]) (fun i => l.length - i) 0 (by simp) (by refine ⟨?_, ?_, rfl⟩ <;> (repeat' (first | exact True.intro | exact rfl | refine ⟨?_, ?_⟩ | (intro h; cases h; done) | (intro h; exact h) | exact map_snoc | (refine own_congr ?_; simp; done) | (refine int_congr ?_; (first | omega | (simp; omega))) | (simp; done)))) ?_
      rintro i hi
      by_cases hil : i < l.length
      · obtain ⟨s, hs⟩ := some_of_lt hil
        have hsl := List.mem_of_getElem? hs
        have hst := bn_snoc g v hs
        have h3 := ev_cell g s hF (sg_place (hall s hsl))
        have h4 := hf s hsl
        rw [bnStep] at hst
        by_cases hc : cellI g s = -1
        · rw [if_pos hc] at hst
          rw [if_pos hc, decide_eq_false (by simpa using hc)] at h3
          conv => whnf
          repeat' (first
            | ((refine PickE.map i hs (by omega) ?_); conv => whnf)
            | ((with_reducible refine Split.of_true ?_); conv => whnf)
            | ((with_reducible refine Split.of_false ?_); conv => whnf)
            | ((with_reducible refine Split.neg ?_))
            | ((with_reducible refine Split.is_true ?_ ?_); decide; conv => whnf)
            | ((with_reducible refine Split.is_false ?_ ?_); decide; conv => whnf)
            | ((with_reducible refine Split.nez (fun _ => ?_) (fun _ => ?_)) <;> conv => whnf)
            | ((with_reducible refine Split.eqz (fun _ => ?_) (fun _ => ?_)) <;> conv => whnf)
            | ((with_reducible refine Split.and ?_))
            | ((with_reducible refine Split.or ?_))
            | ((with_reducible refine Split.streq (fun _ => ?_) (fun _ => ?_)) <;> conv => whnf)
            | ((with_reducible refine Split.dec (fun _ => ?_) (fun _ => ?_)) <;> conv => whnf)
            | ((with_reducible refine Split.mk (fun _ => ?_) (fun _ => ?_)) <;> conv => whnf)
            | ((with_reducible refine NilK.mk (fun _ => ?_) ?_) <;> conv => whnf)
            | ((with_reducible refine AltK.l ?_); (conv => whnf); (with_reducible refine Need.mk ?_ ?_); (first | omega | (refine ⟨?_, ?_⟩ <;> simp <;> omega) | (simp; omega)); conv => whnf)
            | ((with_reducible refine Need.mk ?_ ?_); (first | omega | rfl | decide | (refine ⟨?_, ?_⟩ <;> simp <;> omega) | (simp; omega)); conv => whnf)
            | ((with_reducible refine Wr.quo ?_ ?_ ?_ ?_); omega; omega; omega; conv => whnf)
            | ((with_reducible refine Wr.inr ?_ ?_); (first | omega | (simp; omega)); conv => whnf)
            | ((with_reducible refine Wr.inu ?_ ?_); omega; conv => whnf)
            | ((with_reducible refine AltK.l ?_); (conv => whnf); (first | (refine CallK.mk _ (h3) ?_) | (refine CallK.mk _ (h4) ?_)); conv => whnf)
            | (exfalso; first | omega | contradiction))
          exact Again.au (i + 1) (by omega) (by omega) (by refine ⟨?_, ?_, rfl⟩ <;> (repeat' (first | exact True.intro | exact rfl | refine ⟨?_, ?_⟩ | (intro h; cases h; done) | (intro h; exact h) | exact map_snoc | (refine own_congr ?_; simp; done) | (refine int_congr ?_; (first | omega | (simp; omega))) | (simp; done) | ((first | refine own_congr ?_ | refine int_congr ?_ | skip); simp [hst]; done) | ((first | refine own_congr ?_ | refine int_congr ?_); simp [hst]; omega) | (show @Eq (List Go.Vm.D) _ []; simp [hst]; done) | (simp [D.cells, hst]; done))))
        · rw [if_neg hc] at hst
          rw [if_neg hc, decide_eq_true hc] at h3
          generalize cellI g s = c at *
          have hm := mget_z c (bnS g v (l.take i))
          have hp := mput_z c (v s) (bnS g v (l.take i))
          conv => whnf
          repeat' (first
            | ((refine PickE.map i hs (by omega) ?_); conv => whnf)
            | ((with_reducible refine Split.of_true ?_); conv => whnf)
            | ((with_reducible refine Split.of_false ?_); conv => whnf)
            | ((with_reducible refine Split.neg ?_))
            | ((with_reducible refine Split.is_true ?_ ?_); decide; conv => whnf)
            | ((with_reducible refine Split.is_false ?_ ?_); decide; conv => whnf)
            | ((with_reducible refine Split.nez (fun _ => ?_) (fun _ => ?_)) <;> conv => whnf)
            | ((with_reducible refine Split.eqz (fun _ => ?_) (fun _ => ?_)) <;> conv => whnf)
            | ((with_reducible refine Split.and ?_))
            | ((with_reducible refine Split.or ?_))
            | ((with_reducible refine Split.streq (fun _ => ?_) (fun _ => ?_)) <;> conv => whnf)
            | ((with_reducible refine Split.dec (fun _ => ?_) (fun _ => ?_)) <;> conv => whnf)
            | ((with_reducible refine Split.mk (fun _ => ?_) (fun _ => ?_)) <;> conv => whnf)
            | ((with_reducible refine NilK.mk (fun _ => ?_) ?_) <;> conv => whnf)
            | ((with_reducible refine AltK.l ?_); (conv => whnf); (with_reducible refine Need.mk ?_ ?_); (first | omega | (refine ⟨?_, ?_⟩ <;> simp <;> omega) | (simp; omega)); conv => whnf)
            | ((with_reducible refine Need.mk ?_ ?_); (first | omega | rfl | decide | (refine ⟨?_, ?_⟩ <;> simp <;> omega) | (simp; omega)); conv => whnf)
            | ((with_reducible refine Wr.quo ?_ ?_ ?_ ?_); omega; omega; omega; conv => whnf)
            | ((with_reducible refine Wr.inr ?_ ?_); (first | omega | (simp; omega)); conv => whnf)
            | ((with_reducible refine Wr.inu ?_ ?_); omega; conv => whnf)
            | ((with_reducible refine AltK.l ?_); (conv => whnf); (first | (refine CallK.mk _ (h3) ?_) | (refine CallK.mk _ (h4) ?_)); conv => whnf)
            | (exfalso; first | omega | contradiction))
          refine LookK.mk (fun w hw => ?_) (fun hw => ?_)
          · rw [hm, Option.map_eq_some_iff] at hw
            obtain ⟨o, ho, rfl⟩ := hw
            rw [ho] at hst
            simp only at hst
            conv => whnf
            repeat' (first
              | ((with_reducible refine Split.of_true ?_); conv => whnf)
              | ((with_reducible refine Split.of_false ?_); conv => whnf)
              | ((with_reducible refine Split.neg ?_))
              | ((with_reducible refine Split.is_true ?_ ?_); decide; conv => whnf)
              | ((with_reducible refine Split.is_false ?_ ?_); decide; conv => whnf)
              | ((with_reducible refine Split.nez (fun _ => ?_) (fun _ => ?_)) <;> conv => whnf)
              | ((with_reducible refine Split.eqz (fun _ => ?_) (fun _ => ?_)) <;> conv => whnf)
              | ((with_reducible refine Split.and ?_))
              | ((with_reducible refine Split.or ?_))
              | ((with_reducible refine Split.streq (fun _ => ?_) (fun _ => ?_)) <;> conv => whnf)
              | ((with_reducible refine Split.dec (fun _ => ?_) (fun _ => ?_)) <;> conv => whnf)
              | ((with_reducible refine Split.mk (fun _ => ?_) (fun _ => ?_)) <;> conv => whnf)
              | ((with_reducible refine NilK.mk (fun _ => ?_) ?_) <;> conv => whnf)
              | ((with_reducible refine AltK.l ?_); (conv => whnf); (with_reducible refine Need.mk ?_ ?_); (first | omega | (refine ⟨?_, ?_⟩ <;> simp <;> omega) | (simp; omega)); conv => whnf)
              | ((with_reducible refine Need.mk ?_ ?_); (first | omega | rfl | decide | (refine ⟨?_, ?_⟩ <;> simp <;> omega) | (simp; omega)); conv => whnf)
              | ((with_reducible refine Wr.quo ?_ ?_ ?_ ?_); omega; omega; omega; conv => whnf)
              | ((with_reducible refine Wr.inr ?_ ?_); (first | omega | (simp; omega)); conv => whnf)
              | ((with_reducible refine Wr.inu ?_ ?_); omega; conv => whnf)
              | ((with_reducible refine AltK.l ?_); (conv => whnf); (first | (refine CallK.mk _ (h4) ?_)); conv => whnf)
              | (exfalso; first | omega | contradiction))
            · rw [if_pos (by assumption)] at hst
              rw [← hst] at hp
              have hmp1 := hp
              exact Again.au (i + 1) (by omega) (by omega) (by refine ⟨?_, ?_, rfl⟩ <;> (repeat' (first | exact True.intro | exact rfl | refine ⟨?_, ?_⟩ | (intro h; cases h; done) | (intro h; exact h) | exact map_snoc | (refine own_congr ?_; simp; done) | (refine int_congr ?_; (first | omega | (simp; omega))) | (simp; done) | exact hmp1 | ((first | refine own_congr ?_ | refine int_congr ?_ | skip); simp [D.cells]; done) | ((first | refine own_congr ?_ | refine int_congr ?_); simp [D.cells]; omega) | (show @Eq (List Go.Vm.D) _ []; simp [D.cells]; done) | (simp [D.cells, D.cells]; done))))
            · rw [if_neg (by assumption)] at hst
              exact Again.au (i + 1) (by omega) (by omega) (by refine ⟨?_, ?_, rfl⟩ <;> (repeat' (first | exact True.intro | exact rfl | refine ⟨?_, ?_⟩ | (intro h; cases h; done) | (intro h; exact h) | exact map_snoc | (refine own_congr ?_; simp; done) | (refine int_congr ?_; (first | omega | (simp; omega))) | (simp; done) | ((first | refine own_congr ?_ | refine int_congr ?_ | skip); simp [hst]; done) | ((first | refine own_congr ?_ | refine int_congr ?_); simp [hst]; omega) | (show @Eq (List Go.Vm.D) _ []; simp [hst]; done) | (simp [D.cells, hst]; done))))
          · rw [hm, Option.map_eq_none_iff] at hw
            rw [hw] at hst
            simp only at hst
            rw [← hst] at hp
            have hmp1 := hp
            conv => whnf
            repeat' (first
              | ((with_reducible refine Split.of_true ?_); conv => whnf)
              | ((with_reducible refine Split.of_false ?_); conv => whnf)
              | ((with_reducible refine Split.neg ?_))
              | ((with_reducible refine Split.is_true ?_ ?_); decide; conv => whnf)
              | ((with_reducible refine Split.is_false ?_ ?_); decide; conv => whnf)
              | ((with_reducible refine Split.nez (fun _ => ?_) (fun _ => ?_)) <;> conv => whnf)
              | ((with_reducible refine Split.eqz (fun _ => ?_) (fun _ => ?_)) <;> conv => whnf)
              | ((with_reducible refine Split.and ?_))
              | ((with_reducible refine Split.or ?_))
              | ((with_reducible refine Split.streq (fun _ => ?_) (fun _ => ?_)) <;> conv => whnf)
              | ((with_reducible refine Split.dec (fun _ => ?_) (fun _ => ?_)) <;> conv => whnf)
              | ((with_reducible refine Split.mk (fun _ => ?_) (fun _ => ?_)) <;> conv => whnf)
              | ((with_reducible refine NilK.mk (fun _ => ?_) ?_) <;> conv => whnf)
              | ((with_reducible refine AltK.l ?_); (conv => whnf); (with_reducible refine Need.mk ?_ ?_); (first | omega | (refine ⟨?_, ?_⟩ <;> simp <;> omega) | (simp; omega)); conv => whnf)
              | ((with_reducible refine Need.mk ?_ ?_); (first | omega | rfl | decide | (refine ⟨?_, ?_⟩ <;> simp <;> omega) | (simp; omega)); conv => whnf)
              | ((with_reducible refine Wr.quo ?_ ?_ ?_ ?_); omega; omega; omega; conv => whnf)
              | ((with_reducible refine Wr.inr ?_ ?_); (first | omega | (simp; omega)); conv => whnf)
              | ((with_reducible refine Wr.inu ?_ ?_); omega; conv => whnf)
              | ((with_reducible refine AltK.l ?_); (conv => whnf); (first | (refine CallK.mk _ (h4) ?_)); conv => whnf)
              | (exfalso; first | omega | contradiction))
            exact Again.au (i + 1) (by omega) (by omega) (by refine ⟨?_, ?_, rfl⟩ <;> (repeat' (first | exact True.intro | exact rfl | refine ⟨?_, ?_⟩ | (intro h; cases h; done) | (intro h; exact h) | exact map_snoc | (refine own_congr ?_; simp; done) | (refine int_congr ?_; (first | omega | (simp; omega))) | (simp; done) | exact hmp1 | ((first | refine own_congr ?_ | refine int_congr ?_ | skip); simp [D.cells]; done) | ((first | refine own_congr ?_ | refine int_congr ?_); simp [D.cells]; omega) | (show @Eq (List Go.Vm.D) _ []; simp [D.cells]; done) | (simp [D.cells, D.cells]; done))))
      · obtain ⟨n, hn⟩ : ∃ n : Nat, g.cols * g.rows = n := ⟨(g.cols * g.rows).toNat, by have := hF.all; omega⟩
        have hal := hF.all
        have hR : EvX Try.prog 46 [.own 67 1 1, .d (iD n)] [(67, .row 3 1 [iD 30000] false)] (.own 73 1 n) [(67, .row 3 1 [iD 30000] false), (73, .row 3 1 (List.replicate n (iD 30000)) false)] := (xv_Repeat 30000 n (by omega)).rn [(1000, 67), (9, 73)] rfl
        rw [← hn] at hR
        rw [List.take_of_length_le (show l.length ≤ i by omega)]
        have hN : cellsN g = n := by unfold cellsN; omega
        have hbad := bad_lv (v := v) (l := l) hF
        have hall2 := fun seen h => rowOf_all (v := v) (l := l) hF (seen := seen) h
        rw [hN] at hall2
        obtain ⟨b1, b2, b3⟩ := bn_ok g v l
        have hkey : ∀ p ∈ bnS g v l, 0 ≤ p.1 ∧ p.1 < n := fun p hp => by
          obtain ⟨s, _, e, hc⟩ := b3 p hp
          have := cell_in hF hc
          omega
        clear b1 b2 b3
        generalize bnS g v l = lv at *
        have hmp2 : List.replicate n (iD 30000) = (rowOf lv n []).map iD := by simp [rowOf]
        conv => whnf
        repeat' (first
          | ((with_reducible refine Split.of_true ?_); conv => whnf)
          | ((with_reducible refine Split.of_false ?_); conv => whnf)
          | ((with_reducible refine Split.neg ?_))
          | ((with_reducible refine Split.is_true ?_ ?_); decide; conv => whnf)
          | ((with_reducible refine Split.is_false ?_ ?_); decide; conv => whnf)
          | ((with_reducible refine Split.nez (fun _ => ?_) (fun _ => ?_)) <;> conv => whnf)
          | ((with_reducible refine Split.eqz (fun _ => ?_) (fun _ => ?_)) <;> conv => whnf)
          | ((with_reducible refine Split.and ?_))
          | ((with_reducible refine Split.or ?_))
          | ((with_reducible refine Split.streq (fun _ => ?_) (fun _ => ?_)) <;> conv => whnf)
          | ((with_reducible refine Split.dec (fun _ => ?_) (fun _ => ?_)) <;> conv => whnf)
          | ((with_reducible refine Split.mk (fun _ => ?_) (fun _ => ?_)) <;> conv => whnf)
          | ((with_reducible refine NilK.mk (fun _ => ?_) ?_) <;> conv => whnf)
          | ((with_reducible refine AltK.l ?_); (conv => whnf); (with_reducible refine Need.mk ?_ ?_); (first | omega | (refine ⟨?_, ?_⟩ <;> simp <;> omega) | (simp; omega)); conv => whnf)
          | ((with_reducible refine Need.mk ?_ ?_); (first | omega | rfl | decide | (refine ⟨?_, ?_⟩ <;> simp <;> omega) | (simp; omega)); conv => whnf)
          | ((with_reducible refine Wr.quo ?_ ?_ ?_ ?_); omega; omega; omega; conv => whnf)
          | ((with_reducible refine Wr.inr ?_ ?_); (first | omega | (simp; omega)); conv => whnf)
          | ((with_reducible refine Wr.inu ?_ ?_); omega; conv => whnf)
          | ((with_reducible refine AltK.r ?_); (conv => whnf); (first | (refine CallX.mk _ _ (hR) rfl ?_)); conv => whnf)
          | (exfalso; first | omega | contradiction))
        refine LoopK.o2 (fun seen : List Nat => seen.Nodup ∧ (∀ j ∈ seen, j < lv.length) ∧ ∀ j ∈ seen, ∀ p, lv[j]? = some p → outsideB p.2 (-20000) 20000 = false) (fun _ => []) (fun seen => [(73, .row 3 1 ((rowOf lv n seen).map iD) false), (76, .iter (some 31) (zD lv).length seen)]) (fun seen => lv.length - seen.length) [] ⟨.nil, (fun j hj => (by cases hj)), fun j hj => (by cases hj)⟩ (by refine ⟨?_, ?_, rfl⟩ <;> (repeat' (first | exact True.intro | exact rfl | refine ⟨?_, ?_⟩ | (intro h; cases h; done) | (intro h; exact h) | exact map_snoc | (refine own_congr ?_; simp; done) | (refine int_congr ?_; (first | omega | (simp; omega))) | (simp; done) | exact hmp2 | ((first | refine own_congr ?_ | refine int_congr ?_ | skip); simp [D.cells]; done) | ((first | refine own_congr ?_ | refine int_congr ?_); simp [D.cells]; omega) | (show @Eq (List Go.Vm.D) _ []; simp [D.cells]; done) | (simp [D.cells, D.cells]; done)))) ?_
        rintro seen ⟨n1, n2, n3⟩
        have hrl : ((rowOf lv n seen).map iD).length = n := by rw [List.length_map, rowOf_len]
        conv => whnf
        repeat' (first
          | ((with_reducible refine Split.of_true ?_); conv => whnf)
          | ((with_reducible refine Split.of_false ?_); conv => whnf)
          | ((with_reducible refine Split.neg ?_))
          | ((with_reducible refine Split.is_true ?_ ?_); decide; conv => whnf)
          | ((with_reducible refine Split.is_false ?_ ?_); decide; conv => whnf)
          | ((with_reducible refine Split.nez (fun _ => ?_) (fun _ => ?_)) <;> conv => whnf)
          | ((with_reducible refine Split.eqz (fun _ => ?_) (fun _ => ?_)) <;> conv => whnf)
          | ((with_reducible refine Split.and ?_))
          | ((with_reducible refine Split.or ?_))
          | ((with_reducible refine Split.streq (fun _ => ?_) (fun _ => ?_)) <;> conv => whnf)
          | ((with_reducible refine Split.dec (fun _ => ?_) (fun _ => ?_)) <;> conv => whnf)
          | ((with_reducible refine Split.mk (fun _ => ?_) (fun _ => ?_)) <;> conv => whnf)
          | ((with_reducible refine NilK.mk (fun _ => ?_) ?_) <;> conv => whnf)
          | ((with_reducible refine AltK.l ?_); (conv => whnf); (with_reducible refine Need.mk ?_ ?_); (first | omega | (refine ⟨?_, ?_⟩ <;> simp <;> omega) | (simp; omega)); conv => whnf)
          | ((with_reducible refine Need.mk ?_ ?_); (first | omega | rfl | decide | (refine ⟨?_, ?_⟩ <;> simp <;> omega) | (simp; omega)); conv => whnf)
          | ((with_reducible refine Wr.quo ?_ ?_ ?_ ?_); omega; omega; omega; conv => whnf)
          | ((with_reducible refine Wr.inr ?_ ?_); (first | omega | (simp; omega)); conv => whnf)
          | ((with_reducible refine Wr.inu ?_ ?_); omega; conv => whnf)
          | (exfalso; first | omega | contradiction))
        refine NextK.mk (fun j p hjp hjs => ?_) (fun hall => ?_)
        · conv => whnf
          obtain ⟨⟨q1, q2⟩, hq, rfl⟩ := zD_get hjp
          have h7 := ev_w1 q2 (-20000) 20000
          have hk := hkey _ (List.mem_of_getElem? hq)
          have hjo := (List.getElem?_eq_some_iff.1 hq).1
          have n4 : (j :: seen).Nodup := List.nodup_cons.2 ⟨hjs, n1⟩
          have n5 := nodup_len lv.length (j :: seen) n4 fun x hx => by
            rcases List.mem_cons.1 hx with rfl | hx
            · exact hjo
            · exact n2 x hx
          rw [List.length_cons] at n5
          dsimp only at hk
          cases ho : outsideB q2 (-20000) 20000 with
          | true =>
            rw [ho] at h7
            have hb : badS g v l = true := by rw [hbad]; exact List.any_eq_true.2 ⟨_, List.mem_of_getElem? hq, ho⟩
            rw [if_pos hb]
            conv => whnf
            repeat' (first
              | ((refine PickE.map j hjp rfl ?_); conv => whnf)
              | ((with_reducible refine Split.of_true ?_); conv => whnf)
              | ((with_reducible refine Split.of_false ?_); conv => whnf)
              | ((with_reducible refine Split.neg ?_))
              | ((with_reducible refine Split.is_true ?_ ?_); decide; conv => whnf)
              | ((with_reducible refine Split.is_false ?_ ?_); decide; conv => whnf)
              | ((with_reducible refine Split.nez (fun _ => ?_) (fun _ => ?_)) <;> conv => whnf)
              | ((with_reducible refine Split.eqz (fun _ => ?_) (fun _ => ?_)) <;> conv => whnf)
              | ((with_reducible refine Split.and ?_))
              | ((with_reducible refine Split.or ?_))
              | ((with_reducible refine Split.streq (fun _ => ?_) (fun _ => ?_)) <;> conv => whnf)
              | ((with_reducible refine Split.dec (fun _ => ?_) (fun _ => ?_)) <;> conv => whnf)
              | ((with_reducible refine Split.mk (fun _ => ?_) (fun _ => ?_)) <;> conv => whnf)
              | ((with_reducible refine NilK.mk (fun _ => ?_) ?_) <;> conv => whnf)
              | ((with_reducible refine AltK.l ?_); (conv => whnf); (with_reducible refine Need.mk ?_ ?_); (first | omega | (refine ⟨?_, ?_⟩ <;> simp <;> omega) | (simp; omega)); conv => whnf)
              | ((with_reducible refine Need.mk ?_ ?_); (first | omega | rfl | decide | (refine ⟨?_, ?_⟩ <;> simp <;> omega) | (simp; omega)); conv => whnf)
              | ((with_reducible refine Wr.quo ?_ ?_ ?_ ?_); omega; omega; omega; conv => whnf)
              | ((with_reducible refine Wr.inr ?_ ?_); (first | omega | (simp; omega)); conv => whnf)
              | ((with_reducible refine Wr.inu ?_ ?_); omega; conv => whnf)
              | ((with_reducible refine AltK.l ?_); (conv => whnf); (first | (refine CallK.mk _ (h7) ?_)); conv => whnf)
              | (exfalso; first | omega | contradiction))
            rfl
          | false =>
            rw [ho] at h7
            have hmp3 : ((rowOf lv n seen).map iD).set q1.toNat (iD q2) = (rowOf lv n (j :: seen)).map iD := by
              rw [rowOf, rowOf, List.foldr_cons, hq, ← List.map_set]
            obtain ⟨w, hw⟩ := some_of_lt (l := rowOf lv n seen) (i := q1.toNat) (by rw [rowOf_len]; omega)
            conv => whnf
            repeat' (first
              | ((refine PickE.map q1.toNat hw rfl ?_); conv => whnf)
              | ((refine PickE.map j hjp rfl ?_); conv => whnf)
              | ((with_reducible refine Split.of_true ?_); conv => whnf)
              | ((with_reducible refine Split.of_false ?_); conv => whnf)
              | ((with_reducible refine Split.neg ?_))
              | ((with_reducible refine Split.is_true ?_ ?_); decide; conv => whnf)
              | ((with_reducible refine Split.is_false ?_ ?_); decide; conv => whnf)
              | ((with_reducible refine Split.nez (fun _ => ?_) (fun _ => ?_)) <;> conv => whnf)
              | ((with_reducible refine Split.eqz (fun _ => ?_) (fun _ => ?_)) <;> conv => whnf)
              | ((with_reducible refine Split.and ?_))
              | ((with_reducible refine Split.or ?_))
              | ((with_reducible refine Split.streq (fun _ => ?_) (fun _ => ?_)) <;> conv => whnf)
              | ((with_reducible refine Split.dec (fun _ => ?_) (fun _ => ?_)) <;> conv => whnf)
              | ((with_reducible refine Split.mk (fun _ => ?_) (fun _ => ?_)) <;> conv => whnf)
              | ((with_reducible refine NilK.mk (fun _ => ?_) ?_) <;> conv => whnf)
              | ((with_reducible refine AltK.l ?_); (conv => whnf); (with_reducible refine Need.mk ?_ ?_); (first | omega | (refine ⟨?_, ?_⟩ <;> simp <;> omega) | (simp; omega)); conv => whnf)
              | ((with_reducible refine Need.mk ?_ ?_); (first | omega | rfl | decide | (refine ⟨?_, ?_⟩ <;> simp <;> omega) | (simp; omega)); conv => whnf)
              | ((with_reducible refine Wr.quo ?_ ?_ ?_ ?_); omega; omega; omega; conv => whnf)
              | ((with_reducible refine Wr.inr ?_ ?_); (first | omega | (simp; omega)); conv => whnf)
              | ((with_reducible refine Wr.inu ?_ ?_); omega; conv => whnf)
              | ((with_reducible refine AltK.l ?_); (conv => whnf); (first | (refine CallK.mk _ (h7) ?_)); conv => whnf)
              | (exfalso; first | omega | contradiction))
            refine Again.au (j :: seen) ⟨n4, fun x hx => ?_, fun x hx y hy => ?_⟩ (by rw [List.length_cons]; omega) (by refine ⟨?_, ?_, rfl⟩ <;> (repeat' (first | exact True.intro | exact rfl | refine ⟨?_, ?_⟩ | (intro h; cases h; done) | (intro h; exact h) | exact map_snoc | (refine own_congr ?_; simp; done) | (refine int_congr ?_; (first | omega | (simp; omega))) | (simp; done) | exact hmp3 | ((first | refine own_congr ?_ | refine int_congr ?_ | skip); simp [D.cells]; done) | ((first | refine own_congr ?_ | refine int_congr ?_); simp [D.cells]; omega) | (show @Eq (List Go.Vm.D) _ []; simp [D.cells]; done) | (simp [D.cells, D.cells]; done))))
            · rcases List.mem_cons.1 hx with rfl | hx
              · exact hjo
              · exact n2 x hx
            · rcases List.mem_cons.1 hx with rfl | hx
              · rw [hq] at hy; cases hy; exact ho
              · exact n3 x hx y hy
        · conv => whnf
          have hb : badS g v l = false := by
            rw [hbad, List.any_eq_false]
            intro p hp
            obtain ⟨j, hj, rfl⟩ := List.getElem_of_mem hp
            rw [n3 j (hall j (by rw [zD_len]; exact hj)) _ (List.getElem?_eq_getElem hj)]; decide
          rw [hb, if_neg (by decide)]
          have hall3 := hall2 seen fun j hj => hall j (by rw [zD_len]; exact hj)
          rw [hall3]
          conv => whnf
          repeat' (first
            | ((with_reducible refine Split.of_true ?_); conv => whnf)
            | ((with_reducible refine Split.of_false ?_); conv => whnf)
            | ((with_reducible refine Split.neg ?_))
            | ((with_reducible refine Split.is_true ?_ ?_); decide; conv => whnf)
            | ((with_reducible refine Split.is_false ?_ ?_); decide; conv => whnf)
            | ((with_reducible refine Split.nez (fun _ => ?_) (fun _ => ?_)) <;> conv => whnf)
            | ((with_reducible refine Split.eqz (fun _ => ?_) (fun _ => ?_)) <;> conv => whnf)
            | ((with_reducible refine Split.and ?_))
            | ((with_reducible refine Split.or ?_))
            | ((with_reducible refine Split.streq (fun _ => ?_) (fun _ => ?_)) <;> conv => whnf)
            | ((with_reducible refine Split.dec (fun _ => ?_) (fun _ => ?_)) <;> conv => whnf)
            | ((with_reducible refine Split.mk (fun _ => ?_) (fun _ => ?_)) <;> conv => whnf)
            | ((with_reducible refine NilK.mk (fun _ => ?_) ?_) <;> conv => whnf)
            | ((with_reducible refine AltK.l ?_); (conv => whnf); (with_reducible refine Need.mk ?_ ?_); (first | omega | (refine ⟨?_, ?_⟩ <;> simp <;> omega) | (simp; omega)); conv => whnf)
            | ((with_reducible refine Need.mk ?_ ?_); (first | omega | rfl | decide | (refine ⟨?_, ?_⟩ <;> simp <;> omega) | (simp; omega)); conv => whnf)
            | ((with_reducible refine Wr.quo ?_ ?_ ?_ ?_); omega; omega; omega; conv => whnf)
            | ((with_reducible refine Wr.inr ?_ ?_); (first | omega | (simp; omega)); conv => whnf)
            | ((with_reducible refine Wr.inu ?_ ?_); omega; conv => whnf)
            | (exfalso; first | omega | contradiction))
          rfl
    · rw [if_pos f0]
      refine ev_of_awp tysOk mixed (fn := Try.f20) Try.func20 rfl rfl rfl ?_
      conv => whnf
      repeat' (first
        | ((with_reducible refine Split.of_true ?_); conv => whnf)
        | ((with_reducible refine Split.of_false ?_); conv => whnf)
        | ((with_reducible refine Split.neg ?_))
        | ((with_reducible refine Split.is_true ?_ ?_); decide; conv => whnf)
        | ((with_reducible refine Split.is_false ?_ ?_); decide; conv => whnf)
        | ((with_reducible refine Split.nez (fun _ => ?_) (fun _ => ?_)) <;> conv => whnf)
        | ((with_reducible refine Split.eqz (fun _ => ?_) (fun _ => ?_)) <;> conv => whnf)
        | ((with_reducible refine Split.and ?_))
        | ((with_reducible refine Split.or ?_))
        | ((with_reducible refine Split.streq (fun _ => ?_) (fun _ => ?_)) <;> conv => whnf)
        | ((with_reducible refine Split.dec (fun _ => ?_) (fun _ => ?_)) <;> conv => whnf)
        | ((with_reducible refine Split.mk (fun _ => ?_) (fun _ => ?_)) <;> conv => whnf)
        | ((with_reducible refine NilK.mk (fun _ => ?_) ?_) <;> conv => whnf)
        | ((with_reducible refine AltK.l ?_); (conv => whnf); (with_reducible refine Need.mk ?_ ?_); (first | omega | (refine ⟨?_, ?_⟩ <;> simp <;> omega) | (simp; omega)); conv => whnf)
        | ((with_reducible refine Need.mk ?_ ?_); (first | omega | rfl | decide | (refine ⟨?_, ?_⟩ <;> simp <;> omega) | (simp; omega)); conv => whnf)
        | ((with_reducible refine Wr.quo ?_ ?_ ?_ ?_); omega; omega; omega; conv => whnf)
        | ((with_reducible refine Wr.inr ?_ ?_); (first | omega | (simp; omega)); conv => whnf)
        | ((with_reducible refine Wr.inu ?_ ?_); omega; conv => whnf)
        | ((with_reducible refine AltK.l ?_); (conv => whnf); (first | (refine CallK.mk _ (h1) ?_) | (refine CallK.mk _ (h2) ?_)); conv => whnf)
        | (exfalso; first | omega | contradiction))
      all_goals simp_all [retOf, grE, iD, grD, gr0]
  · rw [if_pos c0]
    refine ev_of_awp tysOk mixed (fn := Try.f20) Try.func20 rfl rfl rfl ?_
    conv => whnf
    repeat' (first
      | ((with_reducible refine Split.of_true ?_); conv => whnf)
      | ((with_reducible refine Split.of_false ?_); conv => whnf)
      | ((with_reducible refine Split.neg ?_))
      | ((with_reducible refine Split.is_true ?_ ?_); decide; conv => whnf)
      | ((with_reducible refine Split.is_false ?_ ?_); decide; conv => whnf)
      | ((with_reducible refine Split.nez (fun _ => ?_) (fun _ => ?_)) <;> conv => whnf)
      | ((with_reducible refine Split.eqz (fun _ => ?_) (fun _ => ?_)) <;> conv => whnf)
      | ((with_reducible refine Split.and ?_))
      | ((with_reducible refine Split.or ?_))
      | ((with_reducible refine Split.streq (fun _ => ?_) (fun _ => ?_)) <;> conv => whnf)
      | ((with_reducible refine Split.dec (fun _ => ?_) (fun _ => ?_)) <;> conv => whnf)
      | ((with_reducible refine Split.mk (fun _ => ?_) (fun _ => ?_)) <;> conv => whnf)
      | ((with_reducible refine NilK.mk (fun _ => ?_) ?_) <;> conv => whnf)
      | ((with_reducible refine AltK.l ?_); (conv => whnf); (with_reducible refine Need.mk ?_ ?_); (first | omega | (refine ⟨?_, ?_⟩ <;> simp <;> omega) | (simp; omega)); conv => whnf)
      | ((with_reducible refine Need.mk ?_ ?_); (first | omega | rfl | decide | (refine ⟨?_, ?_⟩ <;> simp <;> omega) | (simp; omega)); conv => whnf)
      | ((with_reducible refine Wr.quo ?_ ?_ ?_ ?_); omega; omega; omega; conv => whnf)
      | ((with_reducible refine Wr.inr ?_ ?_); (first | omega | (simp; omega)); conv => whnf)
      | ((with_reducible refine Wr.inu ?_ ?_); omega; conv => whnf)
      | ((with_reducible refine AltK.l ?_); (conv => whnf); (first | (refine CallK.mk _ (h1) ?_)); conv => whnf)
      | (exfalso; first | omega | contradiction))
    all_goals simp_all [retOf, grE, iD, grD, gr0]
end Go.Proofs.Try
end
