/- Texts DpQ DqI, joined; what is not needed is left out. -/
import Derived.Test.YtahnaobdihhppaaMgI
import Derived.Test.YtahnaobdihhppaaProg
import Derived.Test.YtahnaobdihhppaaMgH
import Derived.Test.YtahnaobdihhppaaMcf
section
namespace Go.Proofs.Try
open Go Go.Vm
set_option maxRecDepth 20000
set_option maxHeartbeats 8000000
/-! Disposal: Reasons, Choose. -/
/-- The cheapest pit among the first k. -/
def bstS (y : Yd) (cls v : Int) : Nat → Int
  | 0 => -1
  | k + 1 => match y.pits[k]? with
    | none => bstS y cls v k
    | some p => if refS y p cls v = 0 ∧ (bstS y cls v k < 0 ∨ p.price < ((y.pits[(bstS y cls v k).toNat]?).map Pt.price).getD 0) then k else bstS y cls v k
theorem bst_at (y : Yd) (cls v : Int) : ∀ k, k ≤ y.pits.length → bstS y cls v k < 0 ∧ bstS y cls v k = -1 ∨ ∃ (j : Nat) (p : Pt), bstS y cls v k = j ∧ j < k ∧ y.pits[j]? = some p ∧ refS y p cls v = 0
  | 0, _ => .inl ⟨show (-1 : Int) < 0 by decide, rfl⟩
  | k + 1, h => by
    have ih := bst_at y cls v k (by omega)
    obtain ⟨p, hp⟩ := some_of_lt (show k < y.pits.length by omega)
    rw [bstS, hp]
    simp only
    split
    · rename_i hc
      exact .inr ⟨k, p, rfl, by omega, hp, hc.1⟩
    · rcases ih with ih | ⟨j, q, h1, h2, h3, h4⟩
      · exact .inl ih
      · exact .inr ⟨j, q, h1, by omega, h3, h4⟩
theorem bst_step {y : Yd} {cls v : Int} {k : Nat} {p : Pt} (hp : y.pits[k]? = some p) : bstS y cls v (k + 1) = if refS y p cls v = 0 ∧ (bstS y cls v k < 0 ∨ p.price < ((y.pits[(bstS y cls v k).toNat]?).map Pt.price).getD 0) then (k : Int) else bstS y cls v k := by
  rw [bstS, hp]
def nmAt (y : Yd) (n : Int) : ByteArray := ((y.pits[n.toNat]?).map Pt.name).getD ⟨#[]⟩
theorem ev_ChooseOk {y : Yd} {b : Bt} {k : Nat} {f : Bk} {c : Int} (hs : smallP y) (h0 : withErr y b = 0) (h : Wok y b k f c) :
    Ev Try.prog 28 [ydD y, btD b] (.tup [.str (if bstS y b.cls (volN b f c) y.pits.length < 0 then ⟨#[]⟩ else nmAt y (bstS y b.cls (volN b f c) y.pits.length)), iD (if bstS y b.cls (volN b f c) y.pits.length < 0 then 11 else 0)]) := by
  have hlp : (y.pits.map ptD).length = y.pits.length := List.length_map _
  have h1 := ev_DBulkedOk hs h0 h
  have hp8 := h.yok.pits
  have hd := h.yok.deps
  generalize volN b f c = v at *
  generalize carN b f c = cn at *
  refine ev_of_awp tysOk mixed (fn := Try.f28) Try.func28 rfl rfl rfl ?_
  conv => whnf
  repeat' (first|((with_reducible refine Split.of_true ?_);conv=>whnf)|((with_reducible refine Split.of_false ?_);conv=>whnf)|((with_reducible refine Split.neg ?_))|((with_reducible refine Split.is_true ?_ ?_);decide;conv=>whnf)|((with_reducible refine Split.is_false ?_ ?_);decide;conv=>whnf)|((with_reducible refine Split.nez (fun _=>?_) (fun _=>?_))<;>conv=>whnf)|((with_reducible refine Split.eqz (fun _=>?_) (fun _=>?_))<;>conv=>whnf)|((with_reducible refine Split.dec (fun _=>?_) (fun _=>?_))<;>conv=>whnf)|((with_reducible refine Need.mk ?_ ?_);(first|omega|rfl|decide|(refine ⟨?_, ?_⟩<;>simp<;>omega)|(simp;omega));conv=>whnf)|((with_reducible refine Wr.inr ?_ ?_);(first|omega|(simp;omega));conv=>whnf)|((with_reducible refine AltK.l ?_);(conv=>whnf);(first|(refine CallK.mk _ (h1) ?_));conv=>whnf)|(exfalso;first|omega|contradiction))
  refine LoopK.o2 (fun i : Nat => i ≤ y.pits.length) (fun i => [(9, .d (iD (bstS y b.cls v i))), (25, .d (.int .i64 i))]) (fun _ => []) (fun i => y.pits.length - i) 0 (by simp) (by refine ⟨?_, ?_, rfl⟩<;>(repeat' (first|exact True.intro|exact rfl|refine ⟨?_, ?_⟩|(intro h;cases h;done)|(intro h;exact h)|exact map_snoc|(refine own_congr ?_;simp;done)|(refine int_congr ?_;(first|omega|(simp;omega)))|(simp;done)));done) ?_
  rintro i hi
  have hb := bst_at y b.cls v i hi
  by_cases hil : i < y.pits.length
  · obtain ⟨p, hp⟩ := some_of_lt hil
    have hst := bst_step (cls := b.cls) (v := v) hp
    have hpm := List.mem_of_getElem? hp
    have hr := ev_refusal y b.cls v (h.yok.pit p hpm).1 h.yok.vol (by omega) (hs p hpm)
    generalize refS y p b.cls v = rv at *
    rcases hb with ⟨hb1, hb2⟩ | ⟨j, q, hj, hjk, hq, -⟩
    · rw [hb2] at hst ⊢
      by_cases hz : rv = 0
      · subst hz
        rw [if_pos ⟨rfl, .inl (by decide)⟩] at hst
        conv => whnf
        repeat' (first|((refine PickE.map i hp (by omega) ?_);conv=>whnf)|((with_reducible refine Split.of_true ?_);conv=>whnf)|((with_reducible refine Split.of_false ?_);conv=>whnf)|((with_reducible refine Split.neg ?_))|((with_reducible refine Split.is_true ?_ ?_);decide;conv=>whnf)|((with_reducible refine Split.is_false ?_ ?_);decide;conv=>whnf)|((with_reducible refine Split.nez (fun _=>?_) (fun _=>?_))<;>conv=>whnf)|((with_reducible refine Split.eqz (fun _=>?_) (fun _=>?_))<;>conv=>whnf)|((with_reducible refine Split.dec (fun _=>?_) (fun _=>?_))<;>conv=>whnf)|((with_reducible refine Need.mk ?_ ?_);(first|omega|rfl|decide|(refine ⟨?_, ?_⟩<;>simp<;>omega)|(simp;omega));conv=>whnf)|((with_reducible refine Wr.inr ?_ ?_);(first|omega|(simp;omega));conv=>whnf)|((with_reducible refine AltK.l ?_);(conv=>whnf);(first|(refine CallK.mk _ (hr) ?_));conv=>whnf)|(exfalso;first|omega|contradiction))
        refine Again.au (i + 1) (by omega) (by omega) ?_
        rw [hst]
        exact (by refine ⟨?_, ?_, rfl⟩<;>(repeat' (first|exact True.intro|exact rfl|refine ⟨?_, ?_⟩|(intro h;cases h;done)|(intro h;exact h)|exact map_snoc|(refine own_congr ?_;simp;done)|(refine int_congr ?_;(first|omega|(simp;omega)))|(simp;done)));done)
      · rw [if_neg (fun h => hz h.1)] at hst
        conv => whnf
        repeat' (first|((refine PickE.map i hp (by omega) ?_);conv=>whnf)|((with_reducible refine Split.of_true ?_);conv=>whnf)|((with_reducible refine Split.of_false ?_);conv=>whnf)|((with_reducible refine Split.neg ?_))|((with_reducible refine Split.is_true ?_ ?_);decide;conv=>whnf)|((with_reducible refine Split.is_false ?_ ?_);decide;conv=>whnf)|((with_reducible refine Split.nez (fun _=>?_) (fun _=>?_))<;>conv=>whnf)|((with_reducible refine Split.eqz (fun _=>?_) (fun _=>?_))<;>conv=>whnf)|((with_reducible refine Split.dec (fun _=>?_) (fun _=>?_))<;>conv=>whnf)|((with_reducible refine Need.mk ?_ ?_);(first|omega|rfl|decide|(refine ⟨?_, ?_⟩<;>simp<;>omega)|(simp;omega));conv=>whnf)|((with_reducible refine Wr.inr ?_ ?_);(first|omega|(simp;omega));conv=>whnf)|((with_reducible refine AltK.l ?_);(conv=>whnf);(first|(refine CallK.mk _ (hr) ?_));conv=>whnf)|(exfalso;first|omega|contradiction))
        refine Again.au (i + 1) (by omega) (by omega) ?_
        rw [hst]
        exact (by refine ⟨?_, ?_, rfl⟩<;>(repeat' (first|exact True.intro|exact rfl|refine ⟨?_, ?_⟩|(intro h;cases h;done)|(intro h;exact h)|exact map_snoc|(refine own_congr ?_;simp;done)|(refine int_congr ?_;(first|omega|(simp;omega)))|(simp;done)));done)
    · rw [hj, Int.toNat_natCast, hq] at hst
      rw [hj]
      simp only [Option.map_some, Option.getD_some] at hst
      by_cases hz : rv = 0
      · subst hz
        by_cases hpr : p.price < q.price
        · rw [if_pos ⟨rfl, .inr hpr⟩] at hst
          conv => whnf
          repeat' (first|((refine PickE.map j hq (by omega) ?_);conv=>whnf)|((refine PickE.map i hp (by omega) ?_);conv=>whnf)|((with_reducible refine Split.of_true ?_);conv=>whnf)|((with_reducible refine Split.of_false ?_);conv=>whnf)|((with_reducible refine Split.neg ?_))|((with_reducible refine Split.is_true ?_ ?_);decide;conv=>whnf)|((with_reducible refine Split.is_false ?_ ?_);decide;conv=>whnf)|((with_reducible refine Split.nez (fun _=>?_) (fun _=>?_))<;>conv=>whnf)|((with_reducible refine Split.eqz (fun _=>?_) (fun _=>?_))<;>conv=>whnf)|((with_reducible refine Split.dec (fun _=>?_) (fun _=>?_))<;>conv=>whnf)|((with_reducible refine Need.mk ?_ ?_);(first|omega|rfl|decide|(refine ⟨?_, ?_⟩<;>simp<;>omega)|(simp;omega));conv=>whnf)|((with_reducible refine Wr.inr ?_ ?_);(first|omega|(simp;omega));conv=>whnf)|((with_reducible refine AltK.l ?_);(conv=>whnf);(first|(refine CallK.mk _ (hr) ?_));conv=>whnf)|(exfalso;first|omega|contradiction))
          all_goals first
            | (refine Again.au (i + 1) (by omega) (by omega) ?_
               rw [hst]
               exact (by refine ⟨?_, ?_, rfl⟩<;>(repeat' (first|exact True.intro|exact rfl|refine ⟨?_, ?_⟩|(intro h;cases h;done)|(intro h;exact h)|exact map_snoc|(refine own_congr ?_;simp;done)|(refine int_congr ?_;(first|omega|(simp;omega)))|(simp;done)));done))
            | (exfalso;omega)
        · rw [if_neg (by rintro ⟨-, h | h⟩ <;> omega)] at hst
          conv => whnf
          repeat' (first|((refine PickE.map j hq (by omega) ?_);conv=>whnf)|((refine PickE.map i hp (by omega) ?_);conv=>whnf)|((with_reducible refine Split.of_true ?_);conv=>whnf)|((with_reducible refine Split.of_false ?_);conv=>whnf)|((with_reducible refine Split.neg ?_))|((with_reducible refine Split.is_true ?_ ?_);decide;conv=>whnf)|((with_reducible refine Split.is_false ?_ ?_);decide;conv=>whnf)|((with_reducible refine Split.nez (fun _=>?_) (fun _=>?_))<;>conv=>whnf)|((with_reducible refine Split.eqz (fun _=>?_) (fun _=>?_))<;>conv=>whnf)|((with_reducible refine Split.dec (fun _=>?_) (fun _=>?_))<;>conv=>whnf)|((with_reducible refine Need.mk ?_ ?_);(first|omega|rfl|decide|(refine ⟨?_, ?_⟩<;>simp<;>omega)|(simp;omega));conv=>whnf)|((with_reducible refine Wr.inr ?_ ?_);(first|omega|(simp;omega));conv=>whnf)|((with_reducible refine AltK.l ?_);(conv=>whnf);(first|(refine CallK.mk _ (hr) ?_));conv=>whnf)|(exfalso;first|omega|contradiction))
          all_goals first
            | (refine Again.au (i + 1) (by omega) (by omega) ?_
               rw [hst]
               exact (by refine ⟨?_, ?_, rfl⟩<;>(repeat' (first|exact True.intro|exact rfl|refine ⟨?_, ?_⟩|(intro h;cases h;done)|(intro h;exact h)|exact map_snoc|(refine own_congr ?_;simp;done)|(refine int_congr ?_;(first|omega|(simp;omega)))|(simp;done)));done))
            | (exfalso;omega)
      · rw [if_neg (fun h => hz h.1)] at hst
        conv => whnf
        repeat' (first|((refine PickE.map i hp (by omega) ?_);conv=>whnf)|((with_reducible refine Split.of_true ?_);conv=>whnf)|((with_reducible refine Split.of_false ?_);conv=>whnf)|((with_reducible refine Split.neg ?_))|((with_reducible refine Split.is_true ?_ ?_);decide;conv=>whnf)|((with_reducible refine Split.is_false ?_ ?_);decide;conv=>whnf)|((with_reducible refine Split.nez (fun _=>?_) (fun _=>?_))<;>conv=>whnf)|((with_reducible refine Split.eqz (fun _=>?_) (fun _=>?_))<;>conv=>whnf)|((with_reducible refine Split.dec (fun _=>?_) (fun _=>?_))<;>conv=>whnf)|((with_reducible refine Need.mk ?_ ?_);(first|omega|rfl|decide|(refine ⟨?_, ?_⟩<;>simp<;>omega)|(simp;omega));conv=>whnf)|((with_reducible refine Wr.inr ?_ ?_);(first|omega|(simp;omega));conv=>whnf)|((with_reducible refine AltK.l ?_);(conv=>whnf);(first|(refine CallK.mk _ (hr) ?_));conv=>whnf)|(exfalso;first|omega|contradiction))
        refine Again.au (i + 1) (by omega) (by omega) ?_
        rw [hst]
        exact (by refine ⟨?_, ?_, rfl⟩<;>(repeat' (first|exact True.intro|exact rfl|refine ⟨?_, ?_⟩|(intro h;cases h;done)|(intro h;exact h)|exact map_snoc|(refine own_congr ?_;simp;done)|(refine int_congr ?_;(first|omega|(simp;omega)))|(simp;done)));done)
  · have e : i = y.pits.length := by omega
    rw [← e]
    rcases hb with ⟨hb1, hb2⟩ | ⟨j, q, hj, hjk, hq, -⟩
    · rw [hb2]
      conv => whnf
      repeat' (first|((with_reducible refine Split.of_true ?_);conv=>whnf)|((with_reducible refine Split.of_false ?_);conv=>whnf)|((with_reducible refine Split.neg ?_))|((with_reducible refine Split.is_true ?_ ?_);decide;conv=>whnf)|((with_reducible refine Split.is_false ?_ ?_);decide;conv=>whnf)|((with_reducible refine Split.nez (fun _=>?_) (fun _=>?_))<;>conv=>whnf)|((with_reducible refine Split.eqz (fun _=>?_) (fun _=>?_))<;>conv=>whnf)|((with_reducible refine Split.dec (fun _=>?_) (fun _=>?_))<;>conv=>whnf)|((with_reducible refine Need.mk ?_ ?_);(first|omega|rfl|decide|(refine ⟨?_, ?_⟩<;>simp<;>omega)|(simp;omega));conv=>whnf)|((with_reducible refine Wr.inr ?_ ?_);(first|omega|(simp;omega));conv=>whnf)|(exfalso;first|omega|contradiction))
      rfl
    · rw [hj, if_neg (by omega), if_neg (by omega), nmAt, Int.toNat_natCast, hq]
      conv => whnf
      repeat' (first|((refine PickE.map j hq (by omega) ?_);conv=>whnf)|((with_reducible refine Split.of_true ?_);conv=>whnf)|((with_reducible refine Split.of_false ?_);conv=>whnf)|((with_reducible refine Split.neg ?_))|((with_reducible refine Split.is_true ?_ ?_);decide;conv=>whnf)|((with_reducible refine Split.is_false ?_ ?_);decide;conv=>whnf)|((with_reducible refine Split.nez (fun _=>?_) (fun _=>?_))<;>conv=>whnf)|((with_reducible refine Split.eqz (fun _=>?_) (fun _=>?_))<;>conv=>whnf)|((with_reducible refine Split.dec (fun _=>?_) (fun _=>?_))<;>conv=>whnf)|((with_reducible refine Need.mk ?_ ?_);(first|omega|rfl|decide|(refine ⟨?_, ?_⟩<;>simp<;>omega)|(simp;omega));conv=>whnf)|((with_reducible refine Wr.inr ?_ ?_);(first|omega|(simp;omega));conv=>whnf)|(exfalso;first|omega|contradiction))
      all_goals first
        | rfl
        | (exfalso;omega)
end Go.Proofs.Try
end

section
namespace Go.Proofs.Try
open Go Go.Vm
set_option maxRecDepth 20000
set_option maxHeartbeats 8000000
/-! Disposal: the examples of the chapter hold. -/
def nClean : ByteArray := ⟨#[67, 108, 101, 97, 110]⟩
def nDeep : ByteArray := ⟨#[68, 101, 101, 112]⟩
def nSand : ByteArray := ⟨#[115, 97, 110, 100]⟩
def nSilt : ByteArray := ⟨#[115, 105, 108, 116]⟩
def exY : Yd := ⟨[⟨nClean, 10000, -500, -400, [0], 300⟩, ⟨nDeep, 10000, -900, -700, [0, 1], 500⟩], [⟨nSand, 5, 4⟩, ⟨nSilt, 3, 2⟩], [], [0, 0]⟩
def exB0 : Bt := ⟨1, 400001, 0, nSand, 0⟩
def exB1 : Bt := ⟨2, 400001, 0, nSand, 0⟩
def exB2 : Bt := ⟨3, 800000, 0, nSilt, 1⟩
def exL : List Bt := [exB0, exB1, exB2]
def exK : Bk := ⟨nSand, 5, 4⟩
def exY1 : Yd := plY exY exB0 nClean 0 exK 0
theorem ev_yard9 : Ev Try.prog 51 [] (ydD exY) := by
  refine ev_of_awp tysOk mixed (fn := Try.f51) Try.func51 rfl rfl rfl ?_
  conv => whnf
  repeat' (first|((with_reducible refine Split.of_true ?_);conv=>whnf)|((with_reducible refine Split.of_false ?_);conv=>whnf)|((with_reducible refine Split.neg ?_))|((with_reducible refine Split.is_true ?_ ?_);decide;conv=>whnf)|((with_reducible refine Split.is_false ?_ ?_);decide;conv=>whnf)|((with_reducible refine Split.eqz (fun _=>?_) (fun _=>?_))<;>conv=>whnf)|((with_reducible refine Split.streq (fun _=>?_) (fun _=>?_))<;>conv=>whnf)|((with_reducible refine Split.dec (fun _=>?_) (fun _=>?_))<;>conv=>whnf)|((with_reducible refine Need.mk ?_ ?_);(first|omega|rfl|decide|(refine ⟨?_, ?_⟩<;>simp<;>omega)|(simp;omega));conv=>whnf)|((with_reducible refine Wr.inr ?_ ?_);(first|omega|(simp;omega));conv=>whnf)|(exfalso;first|omega|contradiction))
  rfl
theorem ev_batches9 : Ev Try.prog 52 [] (.sl 5 (exL.map btD)) := by
  refine ev_of_awp tysOk mixed (fn := Try.f52) Try.func52 rfl rfl rfl ?_
  conv => whnf
  repeat' (first|((with_reducible refine Split.of_true ?_);conv=>whnf)|((with_reducible refine Split.of_false ?_);conv=>whnf)|((with_reducible refine Split.neg ?_))|((with_reducible refine Split.is_true ?_ ?_);decide;conv=>whnf)|((with_reducible refine Split.is_false ?_ ?_);decide;conv=>whnf)|((with_reducible refine Split.eqz (fun _=>?_) (fun _=>?_))<;>conv=>whnf)|((with_reducible refine Split.streq (fun _=>?_) (fun _=>?_))<;>conv=>whnf)|((with_reducible refine Split.dec (fun _=>?_) (fun _=>?_))<;>conv=>whnf)|((with_reducible refine Need.mk ?_ ?_);(first|omega|rfl|decide|(refine ⟨?_, ?_⟩<;>simp<;>omega)|(simp;omega));conv=>whnf)|((with_reducible refine Wr.inr ?_ ?_);(first|omega|(simp;omega));conv=>whnf)|(exfalso;first|omega|contradiction))
  rfl
theorem wok_conv {y : Yd} {b : Bt} {k : Nat} {f : Bk} {c : Int} (h : withErr y b = 0) (hk : facI y b.soil = k) (hf : y.bulk[k]? = some f) (hc : y.carry[k]? = some c) : Wok y b k f c := by
  obtain ⟨k', f', c', hW⟩ := with_ok h
  have h1 := hW.ixk
  have hkk : k' = k := by omega
  subst hkk
  have hff := Option.some.inj (hW.fat.symm.trans hf)
  have hcc := Option.some.inj (hW.cat.symm.trans hc)
  subst hff; subst hcc
  exact hW
theorem ex_w0 : Wok exY exB0 0 exK 0 := wok_conv (by decide +kernel) (by decide +kernel) rfl rfl
theorem ex_w1 : Wok exY1 exB1 0 exK 1 := wok_conv (by decide +kernel) (by decide +kernel) rfl (by decide +kernel)
def exFl : List (List Int) := [[500001, 0], [499999, 2], [0, 1200000]]
def exT : Tf := ⟨[500, 500, 500], [200, 0], false⟩
theorem ex_small : smallP exY := fun p hp => by
  simp only [exY, List.mem_cons, List.mem_nil_iff, or_false] at hp
  rcases hp with rfl | rfl <;> simp
theorem ex_cls : ∀ x ∈ exY.pits, x.cls.length ≤ 100000 := fun p hp => by
  simp only [exY, List.mem_cons, List.mem_nil_iff, or_false] at hp
  rcases hp with rfl | rfl <;> simp
def exF : Frt := ⟨allF exY exL exFl 3, 900001000, exT⟩
theorem ex_tf : tfGo (accF exY exL) (priceF exY) exFl exY.pits.length exL.length 30 (tfS exY.pits.length exL.length (roomF exY) exFl) = some exT := by
  have h : (tfGo (accF exY exL) (priceF exY) exFl exY.pits.length exL.length 30 (tfS exY.pits.length exL.length (roomF exY) exFl)).map (fun t => (t.bs, t.ps, t.again)) = some (exT.bs, exT.ps, exT.again) := by decide +kernel
  obtain ⟨t, ht, he⟩ := Option.map_eq_some_iff.1 h
  rw [ht]
  cases t
  simp only [Prod.mk.injEq] at he
  obtain ⟨rfl, rfl, rfl⟩ := he
  rfl
theorem ev_exCheapest : Ev Try.prog 49 [ydD exY, .sl 5 (exL.map btD)] (.tup [frD exF, iD 0]) := by
  have h := ev_CheapestOk (y := exY) (l := exL) ex_small (by decide +kernel) (n := 30) (k := 30) (m := 30) (fl := exFl) (by decide) (by decide +kernel) (by decide +kernel) (t := exT) ex_tf
    (by decide +kernel) (by decide +kernel)
  have hc : costF exY (allF exY exL exFl exL.length) = 900001000 := by decide +kernel
  rw [hc] at h
  exact h
theorem ev_exPlace : Ev Try.prog 19 [ydD exY, btD exB0, .str nClean] (.tup [ydD exY1, iD 0]) := by
  have h := ev_Place (s := nClean) ex_cls (by decide +kernel) ex_w0
  have hz : plErr exY exB0 nClean (volN exB0 exK 0) = 0 := by decide +kernel
  rw [hz, if_pos rfl] at h
  exact h
theorem ev_exChoose : Ev Try.prog 28 [ydD exY1, btD exB1] (.tup [.str nDeep, iD 0]) := by
  have h := ev_ChooseOk (y := exY1) (b := exB1) ex_small (by decide +kernel) ex_w1
  have hz : bstS exY1 exB1.cls (volN exB1 exK 1) exY1.pits.length = 1 := by decide +kernel
  rw [hz, if_neg (by decide), if_neg (by decide)] at h
  exact h
theorem ev_awake9 : Ev Try.prog 11 [] (.bool true) := by
  have h1 := ev_yard9
  have h2 := ev_batches9
  have h3 := ev_exCheapest
  have h4 := ev_exPlace
  have h5 := ev_exChoose
  have hb : (exL.map btD).length = 3 := rfl
  have hp0 : (exL.map btD)[0]? = some (btD exB0) := rfl
  have hp1 : (exL.map btD)[1]? = some (btD exB1) := rfl
  refine ev_of_awp tysOk mixed (fn := Try.f11) Try.func11 rfl rfl rfl ?_
  conv => whnf
  repeat' (first|((refine PickE.mk _ hp1 ?_);conv=>whnf)|((refine PickE.mk _ hp0 ?_);conv=>whnf)|((with_reducible refine Split.of_true ?_);conv=>whnf)|((with_reducible refine Split.of_false ?_);conv=>whnf)|((with_reducible refine Split.neg ?_))|((with_reducible refine Split.is_true ?_ ?_);decide;conv=>whnf)|((with_reducible refine Split.is_false ?_ ?_);decide;conv=>whnf)|((with_reducible refine Split.eqz (fun _=>?_) (fun _=>?_))<;>conv=>whnf)|((with_reducible refine Split.streq (fun _=>?_) (fun _=>?_))<;>conv=>whnf)|((with_reducible refine Split.dec (fun _=>?_) (fun _=>?_))<;>conv=>whnf)|((with_reducible refine Need.mk ?_ ?_);(first|omega|rfl|decide|(refine ⟨?_, ?_⟩<;>simp<;>omega)|(simp;omega));conv=>whnf)|((with_reducible refine Wr.inr ?_ ?_);(first|omega|(simp;omega));conv=>whnf)|((with_reducible refine AltK.l ?_);(conv=>whnf);(first|(refine CallK.mk _ (h1) ?_)|(refine CallK.mk _ (h2) ?_)|(refine CallK.mk _ (h3) ?_)|(refine CallK.mk _ (h4) ?_)|(refine CallK.mk _ (h5) ?_));conv=>whnf)|(exfalso;first|omega|contradiction))
  all_goals first
    | rfl
    | (exfalso;first|omega|contradiction)

end Go.Proofs.Try
end
