/- Texts TwM SdA SdB SdD SdG SdH TwZ SdT SdO SeA SeB SeC SeD SeE SeF SeG SdZ SdR, joined; what is not needed is left out. -/
import Derived.Test.YtomfefffkodgdaaGreatMgH
import Derived.Test.YtomfefffkodgdaaGreatProg
import Derived.Test.YtomfefffkodgdaaGreatMgI
import Derived.Shelf.SlLaysF0
import Derived.Test.YtomfefffkodgdaaGreatMgJ
import Derived.Shelf.Lays
import Derived.Test.YtomfefffkodgdaaGreatMcc
section
namespace Go.Proofs.Tryz
open Go Go.Vm
set_option maxRecDepth 20000
set_option maxHeartbeats 2000000
theorem ev_Within (n lo hi : Int) : Ev Tryz.prog 34 [.int .i64 n, .int .i64 lo, .int .i64 hi] (.bool (!outsideB n lo hi)) := by
 refine ev_of_awp tysOk mixed (fn := Tryz.f34) Tryz.func34 rfl rfl rfl ?_
 conv => whnf
 repeat' (first|((with_reducible refine Split.dec (fun _=>?_) (fun _=>?_))<;>conv=>whnf)|fail)
 all_goals
  simp only [retOf, outsideB]
  congr 1
  rw [Bool.eq_iff_iff]
  simp
  omega
end Go.Proofs.Tryz
end

section
namespace Go.Proofs.Tryz
open Go Go.Vm
set_option maxRecDepth 20000
set_option maxHeartbeats 2000000
theorem ev_ValidR (s : Sg) : Ev Tryz.prog 35 [sgD s] (.bool (sgB s)) := by
 refine ev_of_awp tysOk mixed (fn := Tryz.f35) Tryz.func35 rfl rfl rfl ?_
 conv => whnf
 repeat' (first|((with_reducible first|refine Split.of_true ?_|refine Split.of_false ?_);conv=>whnf)|(with_reducible refine Split.neg ?_)|((with_reducible refine Split.is_true ?_ ?_);decide;conv=>whnf)|((with_reducible refine Split.is_false ?_ ?_);decide;conv=>whnf)|((with_reducible refine Split.nez (fun _=>?_) (fun _=>?_))<;>conv=>whnf)|((with_reducible refine Split.eqz (fun _=>?_) (fun _=>?_))<;>conv=>whnf)|(with_reducible refine Split.and ?_)|(with_reducible refine Split.or ?_)|((with_reducible refine Split.streq (fun _=>?_) (fun _=>?_))<;>conv=>whnf)|((with_reducible refine Split.dec (fun _=>?_) (fun _=>?_))<;>conv=>whnf)|((with_reducible refine Split.mk (fun _=>?_) (fun _=>?_))<;>conv=>whnf)|((with_reducible refine NilK.mk (fun _=>?_) ?_)<;>conv=>whnf)|((with_reducible refine AltK.l ?_);(conv=>whnf);(with_reducible refine Need.mk ?_ ?_);(first|omega|(refine ⟨?_,?_⟩<;>simp<;>omega)|(simp;omega));conv=>whnf)|((with_reducible refine Need.mk ?_ ?_);(first|omega|rfl|decide|(refine ⟨?_,?_⟩<;>simp<;>omega)|(simp;omega));conv=>whnf)|((with_reducible refine Wr.quo ?_ ?_ ?_ ?_);omega;omega;omega;conv=>whnf)|((with_reducible refine Wr.inr ?_ ?_);(first|omega|(simp;omega));conv=>whnf)|((with_reducible refine Wr.inu ?_ ?_);omega;conv=>whnf)|((with_reducible refine AltK.l ?_);(conv=>whnf);(first|(refine CallK.mk _ (ev_Within _ _ _) ?_));conv=>whnf)|(exfalso;first|omega|contradiction)|fail)
 all_goals (simp_all [retOf, sgB] <;> omega)
end Go.Proofs.Tryz
end

section
namespace Go.Proofs.Tryz
open Go Go.Vm
set_option maxRecDepth 20000
set_option maxHeartbeats 2000000
theorem ev_CheckSR (l : List Sg) : Ev Tryz.prog 14 [.sl 5 (l.map sgD)] (iD (chkErr sgB Sg.n l)) := by
 have hlen : (l.map sgD).length = l.length := List.length_map _
 refine ev_of_awp tysOk mixed (fn := Tryz.f14) Tryz.func14 rfl rfl rfl ?_
 conv => whnf
 repeat' (first|((with_reducible first|refine Split.of_true ?_|refine Split.of_false ?_);conv=>whnf)|(with_reducible refine Split.neg ?_)|((with_reducible refine Split.is_true ?_ ?_);decide;conv=>whnf)|((with_reducible refine Split.is_false ?_ ?_);decide;conv=>whnf)|((with_reducible refine Split.nez (fun _=>?_) (fun _=>?_))<;>conv=>whnf)|((with_reducible refine Split.eqz (fun _=>?_) (fun _=>?_))<;>conv=>whnf)|(with_reducible refine Split.and ?_)|(with_reducible refine Split.or ?_)|((with_reducible refine Split.streq (fun _=>?_) (fun _=>?_))<;>conv=>whnf)|((with_reducible refine Split.dec (fun _=>?_) (fun _=>?_))<;>conv=>whnf)|((with_reducible refine Split.mk (fun _=>?_) (fun _=>?_))<;>conv=>whnf)|((with_reducible refine NilK.mk (fun _=>?_) ?_)<;>conv=>whnf)|((with_reducible refine AltK.l ?_);(conv=>whnf);(with_reducible refine Need.mk ?_ ?_);(first|omega|(refine ⟨?_,?_⟩<;>simp<;>omega)|(simp;omega));conv=>whnf)|((with_reducible refine Need.mk ?_ ?_);(first|omega|rfl|decide|(refine ⟨?_,?_⟩<;>simp<;>omega)|(simp;omega));conv=>whnf)|((with_reducible refine Wr.quo ?_ ?_ ?_ ?_);omega;omega;omega;conv=>whnf)|((with_reducible refine Wr.inr ?_ ?_);(first|omega|(simp;omega));conv=>whnf)|((with_reducible refine Wr.inu ?_ ?_);omega;conv=>whnf)|(exfalso;first|omega|contradiction)|fail)
 ·rw [chkErr, if_pos (by omega)]; rfl
 have e0 : chkErr sgB Sg.n l = chkGo sgB Sg.n [] l := by rw [chkErr, if_neg (by omega)]
 rw [e0]
 refine LoopK.o2 (fun i : Nat => i ≤ l.length ∧ chkGo sgB Sg.n [] l = chkGo sgB Sg.n (l.take i) (l.drop i)) (fun i => [(3, .d (.int .i64 i))]) (fun _ => []) (fun i => l.length - i) 0 (by simp) (by refine ⟨?_, ?_, rfl⟩<;>(repeat' (first|exact True.intro|exact rfl|(refine ⟨?_,?_⟩)|(intro h;cases h;done)|(intro h;exact h)|exact map_snoc|(refine own_congr ?_;simp;done)|(refine int_congr ?_;(first|omega|(simp;omega)))|(simp;done)|fail));done) ?_
 rintro i ⟨hi, hp⟩
 have hn : (i : Int) < l.length → ∃ m, l[i]? = some m := fun h => some_of_lt (by omega)
 conv => whnf
 repeat' (first|((with_reducible first|refine Split.of_true ?_|refine Split.of_false ?_);conv=>whnf)|(with_reducible refine Split.neg ?_)|((with_reducible refine Split.is_true ?_ ?_);decide;conv=>whnf)|((with_reducible refine Split.is_false ?_ ?_);decide;conv=>whnf)|((with_reducible refine Split.nez (fun _=>?_) (fun _=>?_))<;>conv=>whnf)|((with_reducible refine Split.eqz (fun _=>?_) (fun _=>?_))<;>conv=>whnf)|(with_reducible refine Split.and ?_)|(with_reducible refine Split.or ?_)|((with_reducible refine Split.streq (fun _=>?_) (fun _=>?_))<;>conv=>whnf)|((with_reducible refine Split.dec (fun _=>?_) (fun _=>?_))<;>conv=>whnf)|((with_reducible refine Split.mk (fun _=>?_) (fun _=>?_))<;>conv=>whnf)|((with_reducible refine NilK.mk (fun _=>?_) ?_)<;>conv=>whnf)|((with_reducible refine AltK.l ?_);(conv=>whnf);(with_reducible refine Need.mk ?_ ?_);(first|omega|(refine ⟨?_,?_⟩<;>simp<;>omega)|(simp;omega));conv=>whnf)|((with_reducible refine Need.mk ?_ ?_);(first|omega|rfl|decide|(refine ⟨?_,?_⟩<;>simp<;>omega)|(simp;omega));conv=>whnf)|((with_reducible refine Wr.quo ?_ ?_ ?_ ?_);omega;omega;omega;conv=>whnf)|((with_reducible refine Wr.inr ?_ ?_);(first|omega|(simp;omega));conv=>whnf)|((with_reducible refine Wr.inu ?_ ?_);omega;conv=>whnf)|(exfalso;first|omega|contradiction)|fail)
 ·obtain ⟨g, hg⟩ := hn (by omega)
  have hk := hp.trans (chkGo_at hg)
  have hv1 := ev_ValidR g
  generalize sgB g = b2 at *
  cases b2 with
  | false =>
   conv => whnf
   repeat' (first|((refine PickE.map i hg (by omega) ?_);conv=>whnf)|((with_reducible first|refine Split.of_true ?_|refine Split.of_false ?_);conv=>whnf)|(with_reducible refine Split.neg ?_)|((with_reducible refine Split.is_true ?_ ?_);decide;conv=>whnf)|((with_reducible refine Split.is_false ?_ ?_);decide;conv=>whnf)|((with_reducible refine Split.nez (fun _=>?_) (fun _=>?_))<;>conv=>whnf)|((with_reducible refine Split.eqz (fun _=>?_) (fun _=>?_))<;>conv=>whnf)|(with_reducible refine Split.and ?_)|(with_reducible refine Split.or ?_)|((with_reducible refine Split.streq (fun _=>?_) (fun _=>?_))<;>conv=>whnf)|((with_reducible refine Split.dec (fun _=>?_) (fun _=>?_))<;>conv=>whnf)|((with_reducible refine Split.mk (fun _=>?_) (fun _=>?_))<;>conv=>whnf)|((with_reducible refine NilK.mk (fun _=>?_) ?_)<;>conv=>whnf)|((with_reducible refine AltK.l ?_);(conv=>whnf);(with_reducible refine Need.mk ?_ ?_);(first|omega|(refine ⟨?_,?_⟩<;>simp<;>omega)|(simp;omega));conv=>whnf)|((with_reducible refine Need.mk ?_ ?_);(first|omega|rfl|decide|(refine ⟨?_,?_⟩<;>simp<;>omega)|(simp;omega));conv=>whnf)|((with_reducible refine Wr.quo ?_ ?_ ?_ ?_);omega;omega;omega;conv=>whnf)|((with_reducible refine Wr.inr ?_ ?_);(first|omega|(simp;omega));conv=>whnf)|((with_reducible refine Wr.inu ?_ ?_);omega;conv=>whnf)|((with_reducible refine AltK.l ?_);(conv=>whnf);(first|(refine CallK.mk _ (hv1) ?_));conv=>whnf)|(exfalso;first|omega|contradiction)|fail)
   rw [hk, if_pos rfl]; rfl
  | true =>
   rw [if_neg (by decide)] at hk
   conv => whnf
   repeat' (first|((refine PickE.map i hg (by omega) ?_);conv=>whnf)|((with_reducible first|refine Split.of_true ?_|refine Split.of_false ?_);conv=>whnf)|(with_reducible refine Split.neg ?_)|((with_reducible refine Split.is_true ?_ ?_);decide;conv=>whnf)|((with_reducible refine Split.is_false ?_ ?_);decide;conv=>whnf)|((with_reducible refine Split.nez (fun _=>?_) (fun _=>?_))<;>conv=>whnf)|((with_reducible refine Split.eqz (fun _=>?_) (fun _=>?_))<;>conv=>whnf)|(with_reducible refine Split.and ?_)|(with_reducible refine Split.or ?_)|((with_reducible refine Split.streq (fun _=>?_) (fun _=>?_))<;>conv=>whnf)|((with_reducible refine Split.dec (fun _=>?_) (fun _=>?_))<;>conv=>whnf)|((with_reducible refine Split.mk (fun _=>?_) (fun _=>?_))<;>conv=>whnf)|((with_reducible refine NilK.mk (fun _=>?_) ?_)<;>conv=>whnf)|((with_reducible refine AltK.l ?_);(conv=>whnf);(with_reducible refine Need.mk ?_ ?_);(first|omega|(refine ⟨?_,?_⟩<;>simp<;>omega)|(simp;omega));conv=>whnf)|((with_reducible refine Need.mk ?_ ?_);(first|omega|rfl|decide|(refine ⟨?_,?_⟩<;>simp<;>omega)|(simp;omega));conv=>whnf)|((with_reducible refine Wr.quo ?_ ?_ ?_ ?_);omega;omega;omega;conv=>whnf)|((with_reducible refine Wr.inr ?_ ?_);(first|omega|(simp;omega));conv=>whnf)|((with_reducible refine Wr.inu ?_ ?_);omega;conv=>whnf)|((with_reducible refine AltK.l ?_);(conv=>whnf);(first|(refine CallK.mk _ (hv1) ?_));conv=>whnf)|(exfalso;first|omega|contradiction)|fail)
   refine LoopK.o2 (fun k : Nat => k ≤ i ∧ ∀ h ∈ l.take k, (h.n == g.n) = false) (fun k => [(4, .d (.int .i64 k))]) (fun _ => []) (fun k => i - k) 0 (by simp) (by refine ⟨?_, ?_, rfl⟩<;>(repeat' (first|exact True.intro|exact rfl|(refine ⟨?_,?_⟩)|(intro h;cases h;done)|(intro h;exact h)|exact map_snoc|(refine own_congr ?_;simp;done)|(refine int_congr ?_;(first|omega|(simp;omega)))|(simp;done)|fail));done) ?_
   rintro k ⟨hki, hks⟩
   have hnk : (k : Int) < i → ∃ m, l[k]? = some m := fun h => some_of_lt (by omega)
   conv => whnf
   repeat' (first|((with_reducible first|refine Split.of_true ?_|refine Split.of_false ?_);conv=>whnf)|(with_reducible refine Split.neg ?_)|((with_reducible refine Split.is_true ?_ ?_);decide;conv=>whnf)|((with_reducible refine Split.is_false ?_ ?_);decide;conv=>whnf)|((with_reducible refine Split.nez (fun _=>?_) (fun _=>?_))<;>conv=>whnf)|((with_reducible refine Split.eqz (fun _=>?_) (fun _=>?_))<;>conv=>whnf)|(with_reducible refine Split.and ?_)|(with_reducible refine Split.or ?_)|((with_reducible refine Split.streq (fun _=>?_) (fun _=>?_))<;>conv=>whnf)|((with_reducible refine Split.dec (fun _=>?_) (fun _=>?_))<;>conv=>whnf)|((with_reducible refine Split.mk (fun _=>?_) (fun _=>?_))<;>conv=>whnf)|((with_reducible refine NilK.mk (fun _=>?_) ?_)<;>conv=>whnf)|((with_reducible refine AltK.l ?_);(conv=>whnf);(with_reducible refine Need.mk ?_ ?_);(first|omega|(refine ⟨?_,?_⟩<;>simp<;>omega)|(simp;omega));conv=>whnf)|((with_reducible refine Need.mk ?_ ?_);(first|omega|rfl|decide|(refine ⟨?_,?_⟩<;>simp<;>omega)|(simp;omega));conv=>whnf)|((with_reducible refine Wr.quo ?_ ?_ ?_ ?_);omega;omega;omega;conv=>whnf)|((with_reducible refine Wr.inr ?_ ?_);(first|omega|(simp;omega));conv=>whnf)|((with_reducible refine Wr.inu ?_ ?_);omega;conv=>whnf)|(exfalso;first|omega|contradiction)|fail)
   ·obtain ⟨h, hh⟩ := hnk (by omega)
    conv => whnf
    repeat' (first|((refine PickE.map i hg (by omega) ?_);conv=>whnf)|((refine PickE.map k hh (by omega) ?_);conv=>whnf)|((with_reducible first|refine Split.of_true ?_|refine Split.of_false ?_);conv=>whnf)|(with_reducible refine Split.neg ?_)|((with_reducible refine Split.is_true ?_ ?_);decide;conv=>whnf)|((with_reducible refine Split.is_false ?_ ?_);decide;conv=>whnf)|((with_reducible refine Split.nez (fun _=>?_) (fun _=>?_))<;>conv=>whnf)|((with_reducible refine Split.eqz (fun _=>?_) (fun _=>?_))<;>conv=>whnf)|(with_reducible refine Split.and ?_)|(with_reducible refine Split.or ?_)|((with_reducible refine Split.streq (fun _=>?_) (fun _=>?_))<;>conv=>whnf)|((with_reducible refine Split.dec (fun _=>?_) (fun _=>?_))<;>conv=>whnf)|((with_reducible refine Split.mk (fun _=>?_) (fun _=>?_))<;>conv=>whnf)|((with_reducible refine NilK.mk (fun _=>?_) ?_)<;>conv=>whnf)|((with_reducible refine AltK.l ?_);(conv=>whnf);(with_reducible refine Need.mk ?_ ?_);(first|omega|(refine ⟨?_,?_⟩<;>simp<;>omega)|(simp;omega));conv=>whnf)|((with_reducible refine Need.mk ?_ ?_);(first|omega|rfl|decide|(refine ⟨?_,?_⟩<;>simp<;>omega)|(simp;omega));conv=>whnf)|((with_reducible refine Wr.quo ?_ ?_ ?_ ?_);omega;omega;omega;conv=>whnf)|((with_reducible refine Wr.inr ?_ ?_);(first|omega|(simp;omega));conv=>whnf)|((with_reducible refine Wr.inu ?_ ?_);omega;conv=>whnf)|(exfalso;first|omega|contradiction)|fail)
    ·have he : h.n = g.n := by assumption
     rw [hk, if_pos (List.any_eq_true.2 ⟨h, List.mem_of_getElem? (i := k) (by rw [List.getElem?_take_of_lt (by omega)]; exact hh), by simp [he]⟩)]
     rfl
    ·have he : ¬ h.n = g.n := by assumption
     refine Again.au (k + 1) ⟨by omega, fun x hx => ?_⟩ (by omega) (by refine ⟨?_, ?_, rfl⟩<;>(repeat' (first|exact True.intro|exact rfl|(refine ⟨?_,?_⟩)|(intro h;cases h;done)|(intro h;exact h)|exact map_snoc|(refine own_congr ?_;simp;done)|(refine int_congr ?_;(first|omega|(simp;omega)))|(simp;done)|fail));done)
     rw [take_snoc hh] at hx
     rcases List.mem_append.1 hx with hx | hx
     ·exact hks x hx
     ·rw [List.mem_singleton.1 hx]; simpa using he
   ·obtain rfl : k = i := by omega
    have hb1 : ¬ ((l.take k).any fun y => y.n == g.n) = true := by
     rw [Bool.not_eq_true, List.any_eq_false]; intro x hx; rw [hks x hx]; decide
    rw [if_neg hb1] at hk
    exact Again.au (k + 1) ⟨by omega, hk⟩ (by omega) (by refine ⟨?_, ?_, rfl⟩<;>(repeat' (first|exact True.intro|exact rfl|(refine ⟨?_,?_⟩)|(intro h;cases h;done)|(intro h;exact h)|exact map_snoc|(refine own_congr ?_;simp;done)|(refine int_congr ?_;(first|omega|(simp;omega)))|(simp;done)|fail));done)
 ·rw [hp, List.drop_eq_nil_of_le (by omega)]; rfl
end Go.Proofs.Tryz
end

section
namespace Go.Proofs.Tryz
open Go Go.Vm
set_option maxRecDepth 20000
set_option maxHeartbeats 2000000
theorem ev_SameS (a : List Sg) (ha : a.length ≤ 1000000) : Ev Tryz.prog 16 [.sl 5 (a.map sgD), .sl 5 (a.map sgD)] (.bool true) := by
 have hla : (a.map sgD).length = a.length := List.length_map _
 refine ev_of_awp tysOk mixed (fn := Tryz.f16) Tryz.func16 rfl rfl rfl ?_
 conv => whnf
 repeat' (first|((with_reducible first|refine Split.of_true ?_|refine Split.of_false ?_);conv=>whnf)|(with_reducible refine Split.neg ?_)|((with_reducible refine Split.is_true ?_ ?_);decide;conv=>whnf)|((with_reducible refine Split.is_false ?_ ?_);decide;conv=>whnf)|((with_reducible refine Split.nez (fun _=>?_) (fun _=>?_))<;>conv=>whnf)|((with_reducible refine Split.eqz (fun _=>?_) (fun _=>?_))<;>conv=>whnf)|(with_reducible refine Split.and ?_)|(with_reducible refine Split.or ?_)|((with_reducible refine Split.streq (fun _=>?_) (fun _=>?_))<;>conv=>whnf)|((with_reducible refine Split.dec (fun _=>?_) (fun _=>?_))<;>conv=>whnf)|((with_reducible refine Split.mk (fun _=>?_) (fun _=>?_))<;>conv=>whnf)|((with_reducible refine NilK.mk (fun _=>?_) ?_)<;>conv=>whnf)|((with_reducible refine AltK.l ?_);(conv=>whnf);(with_reducible refine Need.mk ?_ ?_);(first|omega|(refine ⟨?_,?_⟩<;>simp<;>omega)|(simp;omega));conv=>whnf)|((with_reducible refine Need.mk ?_ ?_);(first|omega|rfl|decide|(refine ⟨?_,?_⟩<;>simp<;>omega)|(simp;omega));conv=>whnf)|((with_reducible refine Wr.quo ?_ ?_ ?_ ?_);omega;omega;omega;conv=>whnf)|((with_reducible refine Wr.inr ?_ ?_);(first|omega|(simp;omega));conv=>whnf)|((with_reducible refine Wr.inu ?_ ?_);omega;conv=>whnf)|(exfalso;first|omega|contradiction)|fail)
 refine LoopK.o2 (fun i : Nat => i ≤ a.length) (fun i => [(5, .d (.int .i64 i))]) (fun _ => []) (fun i => a.length - i) 0 (by simp) (by refine ⟨?_, ?_, rfl⟩<;>(repeat' (first|exact True.intro|exact rfl|(refine ⟨?_,?_⟩)|(intro h;cases h;done)|(intro h;exact h)|exact map_snoc|(refine own_congr ?_;simp;done)|(refine int_congr ?_;(first|omega|(simp;omega)))|(simp;done)|fail));done) ?_
 rintro i hi
 have hn : (i : Int) < a.length → ∃ m, a[i]? = some m := fun h => some_of_lt (by omega)
 conv => whnf
 repeat' (first|((with_reducible first|refine Split.of_true ?_|refine Split.of_false ?_);conv=>whnf)|(with_reducible refine Split.neg ?_)|((with_reducible refine Split.is_true ?_ ?_);decide;conv=>whnf)|((with_reducible refine Split.is_false ?_ ?_);decide;conv=>whnf)|((with_reducible refine Split.nez (fun _=>?_) (fun _=>?_))<;>conv=>whnf)|((with_reducible refine Split.eqz (fun _=>?_) (fun _=>?_))<;>conv=>whnf)|(with_reducible refine Split.and ?_)|(with_reducible refine Split.or ?_)|((with_reducible refine Split.streq (fun _=>?_) (fun _=>?_))<;>conv=>whnf)|((with_reducible refine Split.dec (fun _=>?_) (fun _=>?_))<;>conv=>whnf)|((with_reducible refine Split.mk (fun _=>?_) (fun _=>?_))<;>conv=>whnf)|((with_reducible refine NilK.mk (fun _=>?_) ?_)<;>conv=>whnf)|((with_reducible refine AltK.l ?_);(conv=>whnf);(with_reducible refine Need.mk ?_ ?_);(first|omega|(refine ⟨?_,?_⟩<;>simp<;>omega)|(simp;omega));conv=>whnf)|((with_reducible refine Need.mk ?_ ?_);(first|omega|rfl|decide|(refine ⟨?_,?_⟩<;>simp<;>omega)|(simp;omega));conv=>whnf)|((with_reducible refine Wr.quo ?_ ?_ ?_ ?_);omega;omega;omega;conv=>whnf)|((with_reducible refine Wr.inr ?_ ?_);(first|omega|(simp;omega));conv=>whnf)|((with_reducible refine Wr.inu ?_ ?_);omega;conv=>whnf)|(exfalso;first|omega|contradiction)|fail)
 ·obtain ⟨x, hx⟩ := hn (by omega)
  conv => whnf
  repeat' (first|((refine PickE.map i hx (by omega) ?_);conv=>whnf)|((with_reducible first|refine Split.of_true ?_|refine Split.of_false ?_);conv=>whnf)|(with_reducible refine Split.neg ?_)|((with_reducible refine Split.is_true ?_ ?_);decide;conv=>whnf)|((with_reducible refine Split.is_false ?_ ?_);decide;conv=>whnf)|((with_reducible refine Split.nez (fun _=>?_) (fun _=>?_))<;>conv=>whnf)|((with_reducible refine Split.eqz (fun _=>?_) (fun _=>?_))<;>conv=>whnf)|(with_reducible refine Split.and ?_)|(with_reducible refine Split.or ?_)|((with_reducible refine Split.streq (fun _=>?_) (fun _=>?_))<;>conv=>whnf)|((with_reducible refine Split.dec (fun _=>?_) (fun _=>?_))<;>conv=>whnf)|((with_reducible refine Split.mk (fun _=>?_) (fun _=>?_))<;>conv=>whnf)|((with_reducible refine NilK.mk (fun _=>?_) ?_)<;>conv=>whnf)|((with_reducible refine AltK.l ?_);(conv=>whnf);(with_reducible refine Need.mk ?_ ?_);(first|omega|(refine ⟨?_,?_⟩<;>simp<;>omega)|(simp;omega));conv=>whnf)|((with_reducible refine Need.mk ?_ ?_);(first|omega|rfl|decide|(refine ⟨?_,?_⟩<;>simp<;>omega)|(simp;omega));conv=>whnf)|((with_reducible refine Wr.quo ?_ ?_ ?_ ?_);omega;omega;omega;conv=>whnf)|((with_reducible refine Wr.inr ?_ ?_);(first|omega|(simp;omega));conv=>whnf)|((with_reducible refine Wr.inu ?_ ?_);omega;conv=>whnf)|(exfalso;first|omega|contradiction)|fail)
  exact Again.au (i + 1) (by omega) (by omega) (by refine ⟨?_, ?_, rfl⟩<;>(repeat' (first|exact True.intro|exact rfl|(refine ⟨?_,?_⟩)|(intro h;cases h;done)|(intro h;exact h)|exact map_snoc|(refine own_congr ?_;simp;done)|(refine int_congr ?_;(first|omega|(simp;omega)))|(simp;done)|fail));done)
 ·rfl
end Go.Proofs.Tryz
end

section
open Go Go.Vm Go.Shelf
namespace Go.Proofs
namespace Tryz
set_option maxRecDepth 20000
set_option maxHeartbeats 2000000
theorem xv_IndexS (l : List Sg) (f : Nat) (caps : List D) (p : Sg → Bool) (hn : l.length ≤ 1000000) (hf : ∀ g ∈ l, Ev Tryz.prog f ([sgD g] ++ caps) (.bool (p g))) :
 EvX Tryz.prog 45 [.own 1000 5 (l.map sgD).length, .d (.fn f caps)] [(1000, .row 40 5 (l.map sgD) false)] (.d (.int .i64 (match l.findIdx? p with | some i => (i : Int) | none => -1))) [(1000, .row 40 5 (l.map sgD) false)] := by
 have hlen : (l.map sgD).length = l.length := List.length_map _
 refine evx_of_awp tysOk mixed (fn := Tryz.f45) Tryz.func45 rfl rfl rfl ?_
 conv => whnf
 skip
 refine LoopK.o2 (fun i : Nat => i ≤ l.length ∧ ∀ g ∈ l.take i, p g = false) (fun i => [(8, .d (.int .i64 i))]) (fun _ => []) (fun i => l.length - i) 0 (by simp) (by refine ⟨?_, ?_, rfl⟩<;>(repeat' (first|exact True.intro|exact rfl|(refine ⟨?_,?_⟩)|(intro h;cases h;done)|fail));done) ?_
 rintro i ⟨hi, hp⟩
 have hn : (i : Int) < l.length → ∃ m, l[i]? = some m := fun h => some_of_lt (by omega)
 conv => whnf
 repeat' (first|((with_reducible refine Split.dec (fun _=>?_) (fun _=>?_))<;>conv=>whnf)|((with_reducible refine Need.mk ?_ ?_);(first|omega|rfl|decide|(refine ⟨?_,?_⟩<;>simp<;>omega)|(simp;omega));conv=>whnf)|fail)
 ·obtain ⟨g, hg⟩ := hn (by omega)
  have hf := hf g (List.mem_of_getElem? hg)
  conv => whnf
  repeat' (first|((refine PickE.map i hg (by omega) ?_);conv=>whnf)|((with_reducible refine Need.mk ?_ ?_);(first|omega|rfl|decide|(refine ⟨?_,?_⟩<;>simp<;>omega)|(simp;omega));conv=>whnf)|fail)
  refine AltK.l ?_
  conv => whnf
  refine CallK.mk _ hf ?_
  conv => whnf
  refine Split.mk (fun hpg => ?_) (fun hpg => ?_)
  ·conv => whnf
   skip
   have e : l.findIdx? p = some i := by
    rw [List.findIdx?_eq_some_iff_getElem]
    refine ⟨by omega, by rw [(List.getElem?_eq_some_iff.1 hg).2]; exact hpg, fun j hj => ?_⟩
    have := hp l[j] (List.mem_take_iff_getElem.2 ⟨j, by omega, rfl⟩)
    rw [this]; decide
   rw [e]
   exact ⟨⟨[], (by refine ⟨?_, ?_, rfl⟩<;>(repeat' (first|exact True.intro|exact rfl|(refine ⟨?_,?_⟩)|(intro h;cases h;done)|fail));done)⟩, rfl⟩
  ·conv => whnf
   conv => whnf
   repeat' (first|((with_reducible refine Wr.inr ?_ ?_);(first|omega|(simp;omega));conv=>whnf)|fail)
   refine Again.au (i + 1) ⟨by omega, fun x hx => ?_⟩ (by omega) (by refine ⟨?_, ?_, rfl⟩<;>(repeat' (first|exact True.intro|exact rfl|(refine ⟨?_,?_⟩)|(intro h;cases h;done)|fail));done)
   rw [take_snoc hg] at hx
   rcases List.mem_append.1 hx with hx | hx
   ·exact hp x hx
   ·rw [List.mem_singleton.1 hx]; exact hpg
 ·have e : l.findIdx? p = none := by
   rw [List.findIdx?_eq_none_iff]
   intro x hx
   rw [← List.take_of_length_le (show l.length ≤ i by omega)] at hx
   exact hp x hx
  rw [e]
  exact ⟨⟨[], (by refine ⟨?_, ?_, rfl⟩<;>(repeat' (first|exact True.intro|exact rfl|(refine ⟨?_,?_⟩)|(intro h;cases h;done)|fail));done)⟩, rfl⟩
end Tryz
end Go.Proofs
end

section
namespace Go.Proofs.Tryz
open Go Go.Vm
set_option maxRecDepth 20000
set_option maxHeartbeats 2000000
theorem xv_delS0 (l : List Sg) (f : Nat) (caps : List D) (p : Sg → Bool) (hn : l.length ≤ 1000000) (hf : ∀ g ∈ l, Ev Tryz.prog f ([sgD g] ++ caps) (.bool (p g))) (h0 : l.findIdx? p = none) :
 EvX Tryz.prog 22 [.own 1000 5 (l.map sgD).length, .d (.fn f caps)] [(1000, .row 40 5 (l.map sgD) false)] (.own 1000 5 (l.map sgD).length) [(1000, .row 40 5 (l.map sgD) false)] := by
 have hlen : (l.map sgD).length = l.length := List.length_map _
 have h := xv_IndexS l f caps p hn hf
 rw [h0] at h
 refine evx_of_awp tysOk mixed (fn := Tryz.f22) Tryz.func22 rfl rfl rfl ?_
 conv => whnf
 repeat' (first|((with_reducible refine Split.is_true ?_ ?_);decide;conv=>whnf)|((with_reducible refine AltK.r ?_);(conv=>whnf);(first|(refine CallX.mk _ _ (h) rfl ?_));conv=>whnf)|fail)
 exact ⟨⟨[], (by refine ⟨?_, ?_, rfl⟩<;>(repeat' (first|exact True.intro|exact rfl|(refine ⟨?_,?_⟩)|(intro h;cases h;done)|fail));done)⟩, rfl⟩
def kpL {α : Type} (p : α → Bool) (l : List α) (j : Nat) : List α := (l.take j).filter fun x => !p x
theorem kp_le {α : Type} (p : α → Bool) (l : List α) (j : Nat) : (kpL p l j).length ≤ j := by
 have := List.length_filter_le (fun x => !p x) (l.take j)
 rw [List.length_take] at this
 unfold kpL
 omega
theorem kp_snoc {α : Type} {p : α → Bool} {l : List α} {j : Nat} {x : α} (h : l[j]? = some x) : kpL p l (j + 1) = if p x = true then kpL p l j else kpL p l j ++ [x] := by
 rw [kpL, take_snoc h, List.filter_append]
 by_cases hp : p x = true <;> simp [hp, kpL]
theorem kp_first {α : Type} {p : α → Bool} {l : List α} {i : Nat} (h : l.findIdx? p = some i) : kpL p l (i + 1) = l.take i ∧ i < l.length := by
 obtain ⟨h1, h2, h3⟩ := List.findIdx?_eq_some_iff_getElem.1 h
 refine ⟨?_, h1⟩
 rw [kp_snoc (List.getElem?_eq_getElem h1), if_pos h2, kpL, List.filter_eq_self]
 intro x hx
 obtain ⟨j, hj, rfl⟩ := List.mem_take_iff_getElem.1 hx
 have := h3 j (by omega)
 simpa using this
theorem take_set_snoc {α : Type} {m : List α} {i : Nat} {x : α} (h : i < m.length) : m.take i ++ [x] = (m.set i x).take (i + 1) := by
 rw [take_snoc (show (m.set i x)[i]? = some x by simp [h])]
 congr 1
 rw [List.take_set_of_le (Nat.le_refl _)]
theorem xv_delS (l : List Sg) (f : Nat) (caps : List D) (p : Sg → Bool) (hn : l.length ≤ 1000000) (hf : ∀ g ∈ l, Ev Tryz.prog f ([sgD g] ++ caps) (.bool (p g))) {i0 : Nat} (h0 : l.findIdx? p = some i0) :
 EvX Tryz.prog 22 [.own 1000 5 (l.map sgD).length, .d (.fn f caps)] [(1000, .row 40 5 (l.map sgD) false)] (.own 9 5 ((l.filter fun x => !p x).map sgD).length) [(1000, .gone), (9, .row 40 5 ((l.filter fun x => !p x).map sgD) false)] := by
 have hlen : (l.map sgD).length = l.length := List.length_map _
 have h := xv_IndexS l f caps p hn hf
 obtain ⟨k0, hi0⟩ := kp_first h0
 rw [h0] at h
 simp only at h
 have hk0 : (kpL p l (i0 + 1)).length = i0 := by rw [k0, List.length_take]; omega
 refine evx_of_awp tysOk mixed (fn := Tryz.f22) Tryz.func22 rfl rfl rfl ?_
 conv => whnf
 repeat' (first|((with_reducible refine Split.eqz (fun _=>?_) (fun _=>?_))<;>conv=>whnf)|((with_reducible refine Wr.inr ?_ ?_);(first|omega|(simp;omega));conv=>whnf)|((with_reducible refine AltK.r ?_);(conv=>whnf);(first|(refine CallX.mk _ _ (h) rfl ?_));conv=>whnf)|(exfalso;first|omega|contradiction)|fail)
 refine LoopK.o2 (fun x : Nat × List Sg => i0 + 1 ≤ x.1 ∧ x.1 ≤ l.length ∧ x.2.length = l.length ∧ (∀ k, x.1 ≤ k → x.2[k]? = l[k]?) ∧ x.2.take (kpL p l x.1).length = kpL p l x.1 ∧ (kpL p l x.1).length < x.1)
  (fun x => [(5, .d (.int .i64 (kpL p l x.1).length)), (6, .d (.int .i64 x.1))]) (fun x => [(1000, .row 40 5 (x.2.map sgD) false)]) (fun x => l.length - x.1) (i0 + 1, l) ⟨by omega, by omega, rfl, fun _ _ => rfl, by rw [hk0, k0], by rw [hk0];exact Nat.lt_succ_self _⟩ (by refine ⟨?_, ?_, rfl⟩<;>(repeat' (first|exact True.intro|exact rfl|(refine ⟨?_,?_⟩)|(intro h;cases h;done)|(refine int_congr ?_;(first|omega|(simp;omega)))|fail));done) ?_
 rintro ⟨j, m⟩ ⟨h1, h2, h3, h4, h5, h6⟩
 dsimp only at h1 h2 h3 h4 h5 h6 ⊢
 have em : (m.map sgD).length = m.length := List.length_map _
 have hnx : (j : Int) < l.length → ∃ x, l[j]? = some x := fun h => some_of_lt (by omega)
 have e6 := kp_le p l j
 conv => whnf
 repeat' (first|((with_reducible refine Split.dec (fun _=>?_) (fun _=>?_))<;>conv=>whnf)|((with_reducible refine Need.mk ?_ ?_);(first|omega|rfl|decide|(refine ⟨?_,?_⟩<;>simp<;>omega)|(simp;omega));conv=>whnf)|fail)
 ·obtain ⟨x, hx⟩ := hnx (by omega)
  have hxm : m[j]? = some x := (h4 j (Nat.le_refl _)).trans hx
  have hp := hf x (List.mem_of_getElem? hx)
  have hs := kp_snoc (p := p) hx
  cases hpx : p x with
  | true =>
   rw [if_pos hpx] at hs
   rw [hpx] at hp
   conv => whnf
   repeat' (first|((refine PickE.map j hxm (by omega) ?_);conv=>whnf)|((with_reducible refine Split.of_true ?_);conv=>whnf)|(with_reducible refine Split.neg ?_)|((with_reducible refine Need.mk ?_ ?_);(first|omega|rfl|decide|(refine ⟨?_,?_⟩<;>simp<;>omega)|(simp;omega));conv=>whnf)|((with_reducible refine Wr.inr ?_ ?_);(first|omega|(simp;omega));conv=>whnf)|((with_reducible refine AltK.l ?_);(conv=>whnf);(first|(refine CallK.mk _ (hp) ?_));conv=>whnf)|fail)
   refine Again.au (j + 1, m) ⟨by omega, by omega, h3, fun k hk => h4 k (by omega), by rw [hs];exact h5, by rw [hs];omega⟩ (by dsimp only;omega) (by refine ⟨?_, ?_, rfl⟩<;>(repeat' (first|exact True.intro|exact rfl|(refine ⟨?_,?_⟩)|(intro h;cases h;done)|((first|refine own_congr ?_|refine int_congr ?_|skip);simp [hs];done)|fail));done)
  | false =>
   rw [hpx, if_neg (by decide)] at hs
   rw [hpx] at hp
   obtain ⟨y, hy⟩ := some_of_lt (l := m) (i := (kpL p l j).length) (by omega)
   conv => whnf
   repeat' (first|((refine PickE.map (kpL p l j).length hy (by omega) ?_);conv=>whnf)|((refine PickE.map j hxm (by omega) ?_);conv=>whnf)|((with_reducible refine Split.of_false ?_);conv=>whnf)|(with_reducible refine Split.neg ?_)|((with_reducible refine Need.mk ?_ ?_);(first|omega|rfl|decide|(refine ⟨?_,?_⟩<;>simp<;>omega)|(simp;omega));conv=>whnf)|((with_reducible refine Wr.inr ?_ ?_);(first|omega|(simp;omega));conv=>whnf)|((with_reducible refine AltK.l ?_);(conv=>whnf);(first|(refine CallK.mk _ (hp) ?_));conv=>whnf)|fail)
   refine Again.au (j + 1, m.set (kpL p l j).length x) ⟨by omega, by omega, by rw [List.length_set];exact h3, fun k hk => by rw [List.getElem?_set_ne (by omega)];exact h4 k (by omega), ?_, by rw [hs, List.length_append, List.length_singleton];omega⟩ (by dsimp only;omega) (by refine ⟨?_, ?_, rfl⟩<;>(repeat' (first|exact True.intro|exact rfl|(refine ⟨?_,?_⟩)|(intro h;cases h;done)|((first|refine own_congr ?_|refine int_congr ?_|skip);simp [hs,sgD,List.map_set];done)|fail));done)
   rw [hs, List.length_append, List.length_singleton, ← take_set_snoc (by omega), h5]
 ·have ej : j = l.length := by omega
  have ek : kpL p l j = l.filter fun x => !p x := by rw [ej, kpL, List.take_length]
  have h5' : (m.map sgD).take (kpL p l j).length = (kpL p l j).map sgD := by rw [← List.map_take, h5]
  refine AltK.r (AltK.l ?_)
  conv => whnf
  conv => whnf
  repeat' (first|((with_reducible refine Need.mk ?_ ?_);(first|omega|rfl|decide|(refine ⟨?_,?_⟩<;>simp<;>omega)|(simp;omega));conv=>whnf)|fail)
  refine AltK.r (AltK.r ?_)
  conv => whnf
  conv => whnf
  repeat' (first|((with_reducible refine Need.mk ?_ ?_);(first|omega|rfl|decide|(refine ⟨?_,?_⟩<;>simp<;>omega)|(simp;omega));conv=>whnf)|fail)
  rw [← ek]
  exact ⟨⟨[(9, some 41)], (by refine ⟨?_, ?_, rfl⟩<;>(repeat' (first|exact True.intro|exact rfl|(refine ⟨?_,?_⟩)|(intro h;cases h;done)|(refine own_congr ?_;simp;done)|((first|refine own_congr ?_|refine int_congr ?_|skip);simp [h5'];done)|fail));done)⟩, rfl⟩
end Go.Proofs.Tryz
end

section
namespace Go.Proofs.Tryz
open Go Go.Vm
theorem int_of {k : IntKind} {d : D} (h : Ty (.int k) d) : ∃ n, d = .int k n ∧ (Lit.int k n).wf = true := by cases h; exact ⟨_, rfl, by assumption⟩
theorem sl_of {agg : Bool} {cs : List Cs} {d : D} (h : Ty (.sl agg cs) d) : ∃ es, d = .sl cs.length es ∧ (∀ e ∈ es, TyV (agg, cs) e) ∧ es.length ≤ 9223372036854775807 := by
 cases h with
 | sl hk hl h hn => exact ⟨_, rfl, fun e he => ⟨hk e he, hl e he, h e he⟩, hn⟩
theorem agg_of {cs : List Cs} {d : D} (h : TyV (true, cs) d) : ∃ ds, d = .agg ds ∧ ds.length = cs.length ∧ ∀ (j : Nat) c e, cs[j]? = some c → ds[j]? = some e → Ty c e := by
 obtain ⟨ds, rfl⟩ := h.1.1 rfl
 exact ⟨ds, rfl, h.2.1, h.2.2⟩
theorem one_of {c : Cs} {d : D} (h : TyV (false, [c]) d) : Ty c d := by
 have h1 := h.1.2 rfl
 have := h.2.2 0 c d rfl
 rw [(one_cells h1).1] at this
 exact this rfl
theorem map_of {α : Type} {f : α → D} {Q : D → Prop} (hf : ∀ d, Q d → ∃ a, d = f a) : ∀ {es : List D}, (∀ e ∈ es, Q e) → ∃ l : List α, es = l.map f
 | [], _ => ⟨[], rfl⟩
 | e :: es, h => by
  obtain ⟨a, rfl⟩ := hf e (h e (List.mem_cons_self ..))
  obtain ⟨l, rfl⟩ := map_of hf (fun e he => h e (List.mem_cons_of_mem _ he))
  exact ⟨a :: l, rfl⟩
end Go.Proofs.Tryz
end

section
namespace Go.Proofs.Tryz
open Go Go.Vm Go.Sort
set_option maxRecDepth 20000
set_option maxHeartbeats 8000000
theorem noTwo_nodup {l : List Sg} (h : NoTwo l) : l.Nodup := by
 refine List.Pairwise.imp ?_ h
 rintro a b hab rfl
 exact hab rfl
theorem noTwo_perm {l m : List Sg} (hp : l.Perm m) (h : NoTwo l) : NoTwo m := hp.pairwise h (fun hab e => hab e.symm)
end Go.Proofs.Tryz
end

section
namespace Go.Proofs.Tryz
open Go Go.Vm Go.Sort
set_option maxRecDepth 20000
set_option maxHeartbeats 4000000
def byN (l : List Sg) : List (D × D) := l.map fun s => (iD s.n, sgD s)
theorem mget_byN (k : Int) : ∀ l : List Sg, NoTwo l → mget (byN l) (iD k) = (l.find? fun s => s.n == k).map sgD
 | [], _ => rfl
 | a :: r, hu => by
  have ih := mget_byN k r (List.pairwise_cons.1 hu).2
  simp only [byN, List.map_cons] at ih ⊢
  rw [mget, ih, List.find?_cons]
  by_cases h : a.n = k
  ·simp [keyEq, iD, h]
  ·have h2 : (a.n == k) = false := by simpa using h
   simp [keyEq, iD, Ne.symm h, h2]
theorem byN_snoc {l : List Sg} {i : Nat} {g : Sg} (hu : NoTwo l) (hg : l[i]? = some g) : mput (byN (l.take i)) (iD g.n) (sgD g) = byN (l.take (i + 1)) := by
 have hu1 : NoTwo (l.take i ++ [g]) := by rw [← take_snoc hg]; exact hu.sublist (List.take_sublist _ _)
 have h0 : mget (byN (l.take i)) (iD g.n) = none := by
  rw [mget_byN _ _ (List.pairwise_append.1 hu1).1]
  have : (l.take i).find? (fun s => s.n == g.n) = none := by
   rw [List.find?_eq_none]
   intro x hx
   have := (List.pairwise_append.1 hu1).2.2 x hx g (by simp)
   simpa using this
  rw [this]; rfl
 rw [mput_new h0, take_snoc hg]
 simp [byN]
theorem xv_byNumber (l : List Sg) (hu : NoTwo l) (hl : l.length ≤ 1000000) : EvX Tryz.prog 21 [.d (.sl 5 (l.map sgD))] [] (.mp 9) [(9, .map 3 40 (.int .i64) (byN l))] := by
 have hlen : (l.map sgD).length = l.length := List.length_map _
 refine evx_of_awp tysOk mixed (fn := Tryz.f21) Tryz.func21 rfl rfl rfl ?_
 conv => whnf
 skip
 refine LoopK.o2 (fun i : Nat => i ≤ l.length) (fun i => [(9, .d (.int .i64 i))]) (fun i => [(6, .map 3 40 (.int .i64) (byN (l.take i)))]) (fun i => l.length - i) 0 (by simp) (by refine ⟨?_, ?_, rfl⟩<;>(repeat' (first|exact True.intro|exact rfl|(refine ⟨?_,?_⟩)|(intro h;cases h;done)|fail));done) ?_
 rintro i hi
 have hnx : (i : Int) < l.length → ∃ m, l[i]? = some m := fun h => some_of_lt (by omega)
 conv => whnf
 repeat' (first|((with_reducible refine Split.dec (fun _=>?_) (fun _=>?_))<;>conv=>whnf)|((with_reducible refine Need.mk ?_ ?_);(first|omega|rfl|decide|(refine ⟨?_,?_⟩<;>simp<;>omega)|(simp;omega));conv=>whnf)|fail)
 ·obtain ⟨s, hs⟩ := hnx (by omega)
  have hmp1 := byN_snoc hu hs
  rw [sgD] at hmp1
  conv => whnf
  repeat' (first|((refine PickE.map i hs (by omega) ?_);conv=>whnf)|((with_reducible refine Need.mk ?_ ?_);(first|omega|rfl|decide|(refine ⟨?_,?_⟩<;>simp<;>omega)|(simp;omega));conv=>whnf)|((with_reducible refine Wr.inr ?_ ?_);(first|omega|(simp;omega));conv=>whnf)|fail)
  exact Again.au (i + 1) (by omega) (by omega) (by refine ⟨?_, ?_, rfl⟩<;>(repeat' (first|exact True.intro|exact rfl|(refine ⟨?_,?_⟩)|(intro h;cases h;done)|exact hmp1|fail));done)
 ·rw [List.take_of_length_le (by omega)]
  exact ⟨⟨[(9, some 6)], (by refine ⟨?_, ?_, rfl⟩<;>(repeat' (first|exact True.intro|exact rfl|(refine ⟨?_,?_⟩)|(intro h;cases h;done)|fail));done)⟩, rfl⟩
def sgsE (x : List Sg × Int) : D := .tup [.sl 5 (x.1.map sgD), .int .i64 x.2]
theorem find_any {l : List Sg} {n : Int} : ((l.find? fun s => s.n == n) = none) ↔ (l.any fun s => s.n == n) = false := by
 rw [List.find?_eq_none, List.any_eq_false]
end Go.Proofs.Tryz
end

section
namespace Go.Proofs.Tryz
open Go Go.Vm
open Go.RowKit (Below)
set_option maxRecDepth 20000
set_option maxHeartbeats 2000000
def sV5 (a b c d e : Int) : Value := .agg #[.int .i64 a, .int .i64 b, .int .i64 c, .int .i64 d, .int .i64 e]
theorem vals_in (l Bm m nn : Nat) (Em : Array MapEntry) (val : Nat → Value) (J : List Nat → World → Prop)
 (hEv : ∀ j e, Em[j]? = some e → e.born = j ∧ e.val = val j) (hval : ∀ j, ∃ a b c d e, val j = sV5 a b c d e) (hn : Em.size = nn)
 (hY : ∀ pre j W, J pre W → j < nn → j ∉ pre → pre.length < nn → YieldAt Fence.wide 3 Tryz.prog l #[val j] W fun e W' => e = .returned (.bool true) ∧ J (pre ++ [j]) W' ∧ KeepsWalks W W')
 (W : World) (hJ : AbideD W.heap.size J) (hm : W.cell? ⟨Bm, 0, none⟩ = some (.map (some m))) (hb : W.heap[m]? = some (.map Em nn)) (h0 : J [] W) :
 CallsIn Fence.wide 4 Tryz.prog 53 #[.func (.yield l) #[] #[], .pointer (some ⟨Bm, 0, none⟩)] W fun e W' => (∃ v, e = .returned v) ∧ ∃ js : List Nat, js.Perm (List.range nn) ∧ J js W' := by
 refine callsIn_of_wp Tryz.func53 rfl trivial ?_ rfl
 simp only [Tryz.ntmps53, List.size_toArray, List.length_cons, List.length_nil, Nat.reduceAdd, Nat.reduceSub, Array.replicate_succ, Array.replicate_zero, List.push_toArray, List.append_toArray, List.nil_append, List.cons_append]
 gi_wp2_with (first
  |(gi_at_range; refine wpListIn_range_raw rfl _ 61 rfl 3 40 Tryz.underlying61 m nn Em rfl hb ?_)
  | gi_in)
 go_frame
 have hbl : m < W.heap.size := (Array.getElem?_eq_some_iff.1 hb).1
 have hgA : W.grownBy (W.alloc (.mapIter (some m) nn #[] nn)) none := grownBy_alloc W _
 gi_loopw [4] (fun _ wr => ∃ seen : List Nat, wr.heap[W.heap.size]? = some (.mapIter (some m) nn seen.reverse.toArray nn) ∧ wr.heap[m]? = some (.map Em nn) ∧ seen.Nodup ∧ (∀ k ∈ seen, k < nn) ∧ J seen.reverse wr)
  (fun _ wr => leftW W.heap.size nn wr)
 case atStart => exact ⟨[], World.alloc_heap_new W _, (hgA.block m hbl (by simp)).trans hb, List.nodup_nil, by simp, hJ [] W _ none h0 hgA (Nat.le_refl _) (fun r e => by cases e)⟩
 case round =>
  obtain ⟨seen, h1, h2, h3, h4, h5⟩ := hrel
  gi_wp2_with (first
   |(gi_at_next; refine wpListIn_next_raw rfl _ rfl W.heap.size m nn Em seen rfl h1 h2 (fun j e h => (hEv j e h).1) hn ?_ ?_)
   | gi_in)
  ·intro hall
   gi_wp2
   go_end0
   exact ⟨⟨_, rfl⟩, seen.reverse, (List.reverse_perm seen).trans (perm_range h3 h4 hall), h5⟩
  ·intro j e w2 hj hjn hje hg2 hd2 hs2 k1 k2 hen
   have hv := (hEv j e hje).2
   rw [hv] at hen ⊢
   obtain ⟨v1, v2, v3, v4, v5, hv5⟩ := hval j
   have hJ2 : J seen.reverse w2 := hJ _ wr w2 (some W.heap.size) h5 hg2 hd2 (fun r e => by cases e; exact ⟨Nat.le_refl _, _, h1, rfl⟩)
   have hl := nodup_room h3 h4 hj hjn
   have hY2 := fun W1 hW1 => hY seen.reverse j W1 hW1 hj (by simpa using hjn) (by simpa using hl)
   rw [hv5] at hen hY2 ⊢
   unfold sV5 at hen hY2 ⊢
   gi_wp2
   have hgw : w2.grownBy (w2.alloc (.cells #[.int .i64 v1, .int .i64 v2, .int .i64 v3, .int .i64 v4, .int .i64 v5] 40)) none := grownBy_alloc w2 _
   obtain ⟨fn, tmps, assign, body, hy, hR⟩ := hY2 _ (hJ _ w2 _ none hJ2 hgw (Nat.le_refl _) (fun r e => by cases e))
   rw [hy, Oper.uponIn_round]
   refine ⟨fun h => Nat.le_of_ble_eq_true rfl, hR.mono ?_⟩
   rintro e W3 ⟨rfl, hJ3, hk3⟩
   have hlt2 : m < w2.heap.size := (Array.getElem?_eq_some_iff.1 k2).1
   have hlr : W.heap.size < w2.heap.size := (Array.getElem?_eq_some_iff.1 k1).1
   have q1 := hk3.same _ _ ((hgw.block _ hlr (by simp)).trans k1) rfl
   have q2 := hk3.same _ _ ((hgw.block _ hlt2 (by simp)).trans k2) rfl
   go_frame
   gi_wp2
   go_roundw
   case rel => exact ⟨j :: seen, by rw [List.reverse_cons]; exact q1, q2, List.nodup_cons.2 ⟨hjn, h3⟩, fun k hk => by rcases List.mem_cons.1 hk with rfl | hk; exact hj; exact h4 k hk, by rw [List.reverse_cons]; exact hJ3⟩
   case measure => rw [leftW_at h1, leftW_at q1]; simp; omega
end Go.Proofs.Tryz
end

section
namespace Go.Proofs.Tryz
open Go Go.Vm
open Go.RowKit (Below)
set_option maxRecDepth 20000
set_option maxHeartbeats 2000000
def apAsg : Code := (Code.region 2 #[{ dst := some 5, op := Op.alloc 40, type := 0, pos := "iter.go:51", after := #[], guard := none }, { dst := none, op := Op.store 40 (Operand.tmp 5) (Operand.tmp 7), type := 0, pos := "iter.go:51", after := #[{ on := 0, ground := Ground.data }, { on := 0, ground := Ground.phase }], guard := none }] false)
def apBody : Code := (Code.block 1 (Code.region 3 #[{ dst := some 8, op := Op.load 22 (Operand.tmp 2), type := 22, pos := "iter.go:52", after := #[], guard := none }, { dst := some 9, op := Op.load 40 (Operand.tmp 5), type := 40, pos := "iter.go:52", after := #[], guard := none }, { dst := some 10, op := Op.buildSlice 22 1 #[(0, Operand.tmp 9)], type := 22, pos := "iter.go:52", after := #[{ on := 1, ground := Ground.data }], guard := none }, { dst := some 11, op := Op.call { callee := Callee.builtin Builtin.append, args := #[Operand.tmp 8, Operand.tmp 10], argTypes := #[22, 22] }, type := 22, pos := "iter.go:52", after := #[{ on := 0, ground := Ground.data }, { on := 2, ground := Ground.data }], guard := none }, { dst := none, op := Op.store 22 (Operand.tmp 2) (Operand.tmp 11), type := 0, pos := "iter.go:52", after := #[{ on := 3, ground := Ground.data }, { on := 3, ground := Ground.chain }, { on := 0, ground := Ground.phase }, { on := 1, ground := Ground.phase }, { on := 2, ground := Ground.phase }, { on := 3, ground := Ground.phase }], guard := none }] false))
def apRec (fn : FuncId) (sv : Value) (Bs D : Nat) (st : LoopState) (pend : Option Code) : Loop :=
 { state := st, pending := pend, fn, tmps := #[.slice none 0 0, sv, .pointer (some ⟨Bs, 0, none⟩), undef, .slice none 0 0, undef, sv, undef, undef, undef, undef, undef, undef], params := #[7], assign := apAsg, body := apBody, defers := D }
theorem enters_of {P : Program} {f : FuncId} {fn : Func} (hf : P.funcs[f]? = some fn) (n1 : (fn.name == "runtime.NumGoroutine") = false) (n2 : fn.body.isNone = false) (args : Array Value) (w : World) : (callFunc f args).run P w = .ok (.enter f args) w := by
 have n3 : ¬ fn.name = "runtime.NumGoroutine" := by simpa using n1
 have n4 : ¬ fn.body = none := by intro h; rw [h] at n2; cases n2
 simp [callFunc, hf, n3, n4]
def flatV (l : List Value) : List Value := l.flatMap fun v => v.cells.toList
structure ApAt (w0 : World) (fn : FuncId) (sv : Value) (Bs l D : Nat) (vs : List Value) (W : World) : Prop where
 box : ∃ v, W.heap[Bs]? = some (.cells #[v] 22 (0, 0)) ∧ W.ownsRow w0.heap.size 40 5 v vs.length (flatV vs)
 L : W.heap[l]? = some (.loop (apRec fn sv Bs D .ready none))
 K : W.heap[D]? = some (.deferred (some []))
 below : BelowD w0 W
theorem belowD_grown {w0 W W' : World} {row : Option Nat} (h : BelowD w0 W) (hg : W.grownBy W' row) (hd : W.drawn ≤ W'.drawn) (hr : ∀ k, row = some k → w0.heap.size ≤ k) : BelowD w0 W' :=
 ⟨h.toBelow.grown hg h.size hr, Nat.le_trans h.dr hd⟩
theorem row_abides {W W' : World} {row : Option Nat} {base e size k : Nat} {v : Value} {xs : List Value} (h : W.ownsRow base e size v k xs) (hg : W.grownBy W' row)
 (hrow : ∀ r, row = some r → ∃ o : Obj, W.heap[r]? = some o ∧ o.isWalk = true) : W'.ownsRow base e size v k xs := by
 refine h.kept hg ?_
 rcases h.2 with ⟨rfl, _⟩ | ⟨g, cap, cur, rfl, _, hgb, _⟩
 ·exact .inl rfl
 ·refine .inr fun e' => ?_
  obtain ⟨o, ho, hw⟩ := hrow g (by simpa [Value.ownBlock] using e'.symm)
  rw [hgb] at ho; cases ho; cases hw
theorem ap_abides (w0 : World) (fn : FuncId) (sv : Value) (Bs l D B : Nat) (hB : w0.heap.size ≤ B) (val : Nat → Value) : AbideD B fun (js : List Nat) => ApAt w0 fn sv Bs l D (js.map val) := fun s W W' row h hg hd hrow => by
 have hrow' : ∀ r, row = some r → ∃ o : Obj, W.heap[r]? = some o ∧ o.isWalk = true := fun r e => (hrow r e).2
 obtain ⟨v, hv, hr⟩ := h.box
 exact ⟨⟨v, (grownBy_keeps hg hrow' hv rfl).trans hv, row_abides hr hg hrow'⟩, (grownBy_keeps hg hrow' h.L rfl).trans h.L, (grownBy_keeps hg hrow' h.K rfl).trans h.K,
  belowD_grown h.below hg hd fun k e => Nat.le_trans hB (hrow k e).1⟩
theorem grownBy_putObj (W : World) (l : Nat) (o : Obj) : W.grownBy (W.putObj l o) (some l) :=
 ⟨rfl, rfl, rfl, by simp, fun k _ hk => World.putObj_heap_other (fun e => hk (by rw [e]))⟩
theorem grownBy_setCell0 (W : World) (b : Nat) (v : Value) : W.grownBy (W.setCell ⟨b, 0, none⟩ v) (some b) :=
 ⟨rfl, rfl, rfl, (KeepsWalks.setCell W _ v).size, fun k _ hk => Below.heap_setCell _ _ _ k (fun e => hk (by rw [e]))⟩
theorem row_ne {W : World} {base e size k : Nat} {v : Value} {xs : List Value} (h : W.ownsRow base e size v k xs) {j : Nat} {o : Obj} (hj : W.heap[j]? = some o) (hno : ∀ cur, o ≠ .cells cur e (0, 0)) : some j ≠ v.ownBlock := by
 rcases h.2 with ⟨rfl, _⟩ | ⟨g, cap, cur, rfl, _, hgb, _⟩
 ·simp [Value.ownBlock]
 ·intro e'
  have : j = g := by simpa [Value.ownBlock] using e'
  subst this; rw [hgb] at hj; cases hj; exact hno cur rfl
theorem row_keep {W W' : World} {row : Option Nat} {base e size k : Nat} {v : Value} {xs : List Value} (h : W.ownsRow base e size v k xs) (hg : W.grownBy W' row) (hno : ∀ g, v.ownBlock = some g → row ≠ some g) : W'.ownsRow base e size v k xs := by
 refine h.kept hg ?_
 cases hv : v.ownBlock with
 | none => exact .inl rfl
 | some g => exact .inr fun e' => hno g hv e'.symm
theorem cell_of_box {W : World} {B : Nat} {v : Value} {t : TypeId} (h : W.heap[B]? = some (.cells #[v] t (0, 0))) : W.cell? ⟨B, 0, none⟩ = some v ∧ W.frozen? ⟨B, 0, none⟩ = false := by
 constructor <;> simp [World.cell?, World.frozen?, h]
theorem cells_of_box5 {W : World} {B : Nat} {a b c d e : Value} {t : TypeId} (h : W.heap[B]? = some (.cells #[a, b, c, d, e] t (0, 0))) : W.cell? ⟨B, 0, none⟩ = some a ∧ W.cell? ⟨B, 1, none⟩ = some b ∧ W.cell? ⟨B, 2, none⟩ = some c ∧ W.cell? ⟨B, 3, none⟩ = some d ∧ W.cell? ⟨B, 4, none⟩ = some e := by
 refine ⟨?_, ?_, ?_, ?_, ?_⟩ <;> simp [World.cell?, h]
theorem heap_setCell_box {W : World} {B : Nat} {v : Value} {t : TypeId} (v' : Value) (h : W.heap[B]? = some (.cells #[v] t (0, 0))) : (W.setCell ⟨B, 0, none⟩ v').heap[B]? = some (.cells #[v'] t (0, 0)) := by
 obtain ⟨hlt, hk⟩ := Array.getElem?_eq_some_iff.1 h
 show (W.heap.modify B _)[B]? = _
 rw [Array.getElem?_eq_getElem (by rw [Array.size_modify]; exact hlt), Array.getElem_modify_self, hk]
 rfl
theorem row_not_walk {W : World} {base e size k : Nat} {v : Value} {xs : List Value} (h : W.ownsRow base e size v k xs) : ∀ (j : Nat) (o : Obj), v.ownBlock = some j → W.heap[j]? = some o → o.isWalk = false := by
 intro j o hj ho
 rcases h.2 with ⟨rfl, _⟩ | ⟨g, cap, cur, rfl, _, hgb, _⟩
 ·simp [Value.ownBlock] at hj
 ·have : g = j := by simpa [Value.ownBlock] using hj
  subst this; rw [hgb] at ho; cases ho; rfl

theorem apYield (m : Nat) (w0 : World) (fn : FuncId) (sv : Value) (Bs l D : Nat) (hBl : Bs ≠ l) (hDl : D ≠ l) (hDB : D ≠ Bs) (h0B : w0.heap.size ≤ Bs) (h0l : w0.heap.size ≤ l) (vs : List Value) (hlen : vs.length < 1000000)
 (x : Value) (v1 v2 v3 v4 v5 : Int) (hx : x = sV5 v1 v2 v3 v4 v5) (W : World) (h : ApAt w0 fn sv Bs l D vs W) :
 YieldAt Fence.wide m Tryz.prog l #[x] W fun e W' => e = .returned (.bool true) ∧ ApAt w0 fn sv Bs l D (vs ++ [x]) W' ∧ KeepsWalks W W' := by
 obtain ⟨v, hv, hrow⟩ := h.box
 refine ⟨fn, #[.slice none 0 0, sv, .pointer (some ⟨Bs, 0, none⟩), undef, .slice none 0 0, undef, sv, x, undef, undef, undef, undef, undef], apAsg, apBody, by simpa [apRec] using run_yield (P := Tryz.prog) (args := #[x]) h.L rfl, roundIn_of_wpIn trivial ?_⟩
 have hl : l < W.heap.size := (Array.getElem?_eq_some_iff.1 h.L).1
 have hBlt : Bs < W.heap.size := (Array.getElem?_eq_some_iff.1 hv).1
 have hDlt : D < W.heap.size := (Array.getElem?_eq_some_iff.1 h.K).1
 subst hx
 unfold sV5
 unfold apAsg
 gi_wp2_with (rw [Oper.semAt_eq _ _ _ (fun c h => by cases h)]; go_simp; try go_bits)
 have h5a : (W.alloc (.cells #[.int .i64 v1, .int .i64 v2, .int .i64 v3, .int .i64 v4, .int .i64 v5] 40)).heap[W.heap.size]? = some (.cells #[.int .i64 v1, .int .i64 v2, .int .i64 v3, .int .i64 v4, .int .i64 v5] 40 (0, 0)) := World.alloc_heap_new W _
 have hga := grownBy_alloc W (.cells #[.int .i64 v1, .int .i64 v2, .int .i64 v3, .int .i64 v4, .int .i64 v5] 40)
 have hka := KeepsWalks.alloc W (.cells #[.int .i64 v1, .int .i64 v2, .int .i64 v3, .int .i64 v4, .int .i64 v5] 40)
 have hda : W.drawn ≤ (W.alloc (.cells #[.int .i64 v1, .int .i64 v2, .int .i64 v3, .int .i64 v4, .int .i64 v5] 40)).drawn := Nat.le_refl _
 generalize W.alloc (.cells #[.int .i64 v1, .int .i64 v2, .int .i64 v3, .int .i64 v4, .int .i64 v5] 40) = Wa at h5a hga hka hda ⊢
 have hLa := (hga.block l hl (by simp)).trans h.L
 have hlWa : W.heap.size < Wa.heap.size := (Array.getElem?_eq_some_iff.1 h5a).1
 have hbr := run_beginRound (P := Tryz.prog) hLa rfl
 have hg2 := grownBy_putObj Wa l (.loop { apRec fn sv Bs D .ready none with state := .busy })
 have hk2 := KeepsWalks.putObj (.loop { apRec fn sv Bs D .ready none with state := .busy }) hLa rfl
 have hd2 : Wa.drawn ≤ (Wa.putObj l (.loop { apRec fn sv Bs D .ready none with state := .busy })).drawn := Nat.le_refl _
 have hL2 : (Wa.putObj l (.loop { apRec fn sv Bs D .ready none with state := .busy })).heap[l]? = some (.loop { apRec fn sv Bs D .ready none with state := .busy }) := World.putObj_heap_same (Nat.lt_trans hl hlWa)
 have hs2 : (Wa.putObj l (.loop { apRec fn sv Bs D .ready none with state := .busy })).heap.size = Wa.heap.size := World.putObj_size
 generalize Wa.putObj l (.loop { apRec fn sv Bs D .ready none with state := .busy }) = W2 at hbr hg2 hk2 hL2 hs2 hd2
 refine ⟨W2, hbr, ?_⟩
 have nel : ∀ k, k ≠ l → some k ≠ some l := fun k hk e => hk (by cases e; rfl)
 have hv2 := (hg2.block Bs (by omega) (nel _ hBl)).trans ((hga.block Bs hBlt (by simp)).trans hv)
 have hK2 := (hg2.block D (by omega) (nel _ hDl)).trans ((hga.block D hDlt (by simp)).trans h.K)
 have h52 := (hg2.block W.heap.size hlWa (nel _ (by omega))).trans h5a
 have hrowa := row_keep hrow hga (fun _ _ => by simp)
 have hrow2 := row_keep hrowa hg2 fun g hg e => row_ne hrowa hLa (fun cur h => by cases h) (by cases e; exact hg.symm)
 have hb2 : BelowD w0 W2 := belowD_grown (belowD_grown h.below hga hda (fun k e => by cases e)) hg2 hd2 (fun k e => by cases e; exact h0l)
 obtain ⟨hc2, hf2⟩ := cell_of_box hv2
 obtain ⟨q1, q2, q3, q4, q5⟩ := cells_of_box5 h52
 obtain ⟨i0, z0, hi, hz1, hz2, hz3, hz4⟩ := (tysOk 40 _ rfl).info
 have hz5 : z0.cells.size = 5 := by
  have := (zmatchL_rv (L := ⟨fun _ => 0, fun _ => undef, fun _ _ _ => undef, fun _ => 0⟩) (w := W2) (A := fun _ _ => False) hz4).1
  simpa using this.symm
 have hB2 : Bs < W2.heap.size := by omega
 have hl2 : l < W2.heap.size := by omega
 have hD2 : D < W2.heap.size := by omega
 clear hs2 hga hg2 hbr
 have hno22 : ∀ cur, Obj.cells #[v] 22 (0, 0) ≠ .cells cur 40 (0, 0) := fun cur h => by cases h
 have hnoL : ∀ cur, Obj.loop { apRec fn sv Bs D .ready none with state := .busy } ≠ .cells cur 40 (0, 0) := fun cur h => by cases h
 have hnoK : ∀ cur, Obj.deferred (some []) ≠ .cells cur 40 (0, 0) := fun cur h => by cases h
 unfold apBody
 gi_wp2_with (first
  |(gi_at_builtin; refine wpListIn_append_two rfl _ _ 22 rfl w0.heap.size 40 i0 z0 5 _ Tryz.underlying22 hi hz3 hz1 hz2 hz5 _ _ _ rfl (hrow2.alloc _) ⟨W2.heap.size, 0, none⟩ 1 1 [.int .i64 v1, .int .i64 v2, .int .i64 v3, .int .i64 v4, .int .i64 v5] rfl rfl ?hcc ?h1c (by omega) ?hby (by have := hb2.size; simp; omega) (by decide) ?_
    rotate_right 1
    intro v' w3 hown' hg3 hd3
    have hv3 := (hg3.block Bs (by simp; omega) (row_ne hrow2 hv2 hno22)).trans ((Below.heap_alloc _ _ Bs hB2).trans hv2)
    obtain ⟨hc3, hf3⟩ := cell_of_box hv3
    obtain ⟨g', cap', rfl⟩ : ∃ g' cap', v' = .slice (some ⟨g', 0, none⟩) (vs.length + 1) cap' := by
     rcases hown'.2 with ⟨_, h0⟩ | ⟨g', cap', _, e, _⟩
     ·exact absurd h0 (by omega)
     ·exact ⟨g', cap', e⟩
    go_frame)
  |(rw [Oper.semAt_eq _ _ _ (fun c h => by cases h)]; go_simp; try go_bits))
 rotate_left 1
 ·exact ⟨rfl, rfl, rfl, rfl, rfl⟩
 ·show (vs.length + 1) * 40 ≤ 140737488355328
  omega
 have hL3 := (hg3.block l (by simp; omega) (row_ne hrow2 hL2 hnoL)).trans ((Below.heap_alloc _ _ l hl2).trans hL2)
 have hK3 := (hg3.block D (by simp; omega) (row_ne hrow2 hK2 hnoK)).trans ((Below.heap_alloc _ _ D hD2).trans hK2)
 have hg4 := grownBy_setCell0 w3 Bs (.slice (some ⟨g', 0, none⟩) (vs.length + 1) cap')
 have hv4 := heap_setCell_box (.slice (some ⟨g', 0, none⟩) (vs.length + 1) cap') hv3
 have hd4 : w3.drawn ≤ (w3.setCell ⟨Bs, 0, none⟩ (.slice (some ⟨g', 0, none⟩) (vs.length + 1) cap')).drawn := Nat.le_refl _
 have hk4 : KeepsWalks W (w3.setCell ⟨Bs, 0, none⟩ (.slice (some ⟨g', 0, none⟩) (vs.length + 1) cap')) := (((hka.trans hk2).trans (KeepsWalks.alloc _ _)).trans (KeepsWalks.of_grownBy hg3 (row_not_walk (hrow2.alloc _)))).trans (KeepsWalks.setCell _ _ _)
 have hb3 : BelowD w0 w3 := belowD_grown (belowD_grown hb2 (grownBy_alloc W2 _) (Nat.le_refl _) (fun k e => by cases e)) hg3 hd3 (fun k e => (hrow2.lt k e).1)
 generalize w3.setCell ⟨Bs, 0, none⟩ (.slice (some ⟨g', 0, none⟩) (vs.length + 1) cap') = w4 at hg4 hv4 hd4 hk4 ⊢
 have hL4 := (hg4.block l (Array.getElem?_eq_some_iff.1 hL3).1 (fun e => hBl (by cases e; rfl))).trans hL3
 have hK4 := (hg4.block D (Array.getElem?_eq_some_iff.1 hK3).1 (fun e => hDB (by cases e; rfl))).trans hK3
 have hrow4 := row_keep hown' hg4 (fun g hg e => row_ne hown' hv3 hno22 (by cases e; exact hg.symm))
 have hb4 : BelowD w0 w4 := belowD_grown hb3 hg4 hd4 (fun k e => by cases e; exact h0B)
 have hl4 := (Array.getElem?_eq_some_iff.1 hL4).1
 refine ⟨_, _, run_endRound none hL4, rfl, ⟨⟨_, (World.putObj_heap_other hBl).trans hv4, ?_⟩, World.putObj_heap_same hl4, (World.putObj_heap_other hDl).trans hK4, belowD_grown hb4 (grownBy_putObj _ _ _) (Nat.le_refl _) (fun k e => by cases e; exact h0l)⟩, hk4.trans (KeepsWalks.putObj _ hL4 rfl)⟩
 have hr := row_keep hrow4 (grownBy_putObj w4 l (.loop { { apRec fn sv Bs D .ready none with state := .busy } with state := if (none : Option Code).isNone then .ready else .done, pending := none })) (fun g hg e => row_ne hrow4 hL4 hnoL (by cases e; exact hg.symm))
 have e1 : flatV (vs ++ [.agg #[.int .i64 v1, .int .i64 v2, .int .i64 v3, .int .i64 v4, .int .i64 v5]]) = flatV vs ++ [.int .i64 v1, .int .i64 v2, .int .i64 v3, .int .i64 v4, .int .i64 v5] := by simp [flatV, Value.cells]
 rw [e1, List.length_append, List.length_singleton]
 exact hr

theorem appendSeq (Bm mb nn : Nat) (Em : Array MapEntry) (val : Nat → Value) (hEv : ∀ j e, Em[j]? = some e → e.born = j ∧ e.val = val j) (hval : ∀ j, ∃ a b c d e, val j = sV5 a b c d e) (hn : Em.size = nn) (hN : nn < 1000000)
 (w : World) (hBm : Bm < w.heap.size) (hm : w.cell? ⟨Bm, 0, none⟩ = some (.map (some mb))) (hb : w.heap[mb]? = some (.map Em nn)) :
 CallsIn Fence.wide 5 Tryz.prog 64 #[.slice none 0 0, .func (.func 53) #[] #[.pointer (some ⟨Bm, 0, none⟩)]] w fun e w' =>
  ∃ (v : Value) (js : List Nat), e = .returned v ∧ js.Perm (List.range nn) ∧ w'.ownsRow w.heap.size 40 5 v nn (flatV (js.map val)) ∧ BelowD w w' := by
 refine callsIn_of_wp_marks Tryz.func64 rfl trivial ?_ rfl
 simp only [Tryz.ntmps64, List.size_toArray, List.length_cons, List.length_nil, Nat.reduceAdd, Nat.reduceSub, Array.replicate_succ, Array.replicate_zero, List.push_toArray, List.append_toArray, List.nil_append, List.cons_append]
 gi_wp2
 refine wpIn_rangeFunc ?_
 intro fn hfn
 obtain ⟨sv, hsv⟩ : ∃ sv, Value.func (.func 53) #[] #[.pointer (some ⟨Bm, 0, none⟩)] = sv := ⟨_, rfl⟩
 have hs0 : (w.alloc (.cells #[.slice none 0 0] 22)).heap.size = w.heap.size + 1 := by simp
 have hv0 : (w.alloc (.cells #[.slice none 0 0] 22)).heap[w.heap.size]? = some (.cells #[.slice none 0 0] 22 (0, 0)) := World.alloc_heap_new w _
 have hg0 := grownBy_alloc w (.cells #[.slice none 0 0] 22)
 have hd0 : w.drawn ≤ (w.alloc (.cells #[.slice none 0 0] 22)).drawn := Nat.le_refl _
 generalize w.alloc (.cells #[.slice none 0 0] 22) = W0 at hs0 hv0 hg0 hd0 ⊢
 have hb0 : BelowD w W0 := belowD_grown (BelowD.refl w) hg0 hd0 (fun k e => by cases e)
 obtain ⟨W1, hW1⟩ : ∃ W1, (W0.alloc (.deferred (some []))).alloc (.loop (apRec fn sv w.heap.size W0.heap.size .ready none)) = W1 := ⟨_, rfl⟩
 have hg1 : W0.grownBy W1 none := by
  rw [← hW1]; exact ⟨rfl, rfl, rfl, by simp; omega, fun k hk _ => (Below.heap_alloc _ _ k (by simp; omega)).trans (Below.heap_alloc _ _ k hk)⟩
 have hd1 : W0.drawn ≤ W1.drawn := by rw [← hW1]; exact Nat.le_refl _
 have hs1 : W1.heap.size = W0.heap.size + 2 := by rw [← hW1]; simp
 have hb1 : BelowD w W1 := belowD_grown hb0 hg1 hd1 (fun k e => by cases e)
 have hM : ApAt w fn sv w.heap.size (W0.heap.size + 1) W0.heap.size (([] : List Nat).map val) W1 :=
  ⟨⟨_, (hg1.block w.heap.size (by omega) (by simp)).trans hv0, ⟨rfl, .inl ⟨rfl, rfl⟩⟩⟩,
   by rw [← hW1]; have := World.alloc_heap_new (W0.alloc (.deferred (some []))) (.loop (apRec fn sv w.heap.size W0.heap.size .ready none)); rwa [World.size_alloc] at this,
   by rw [← hW1]; exact (Below.heap_alloc _ _ _ (by simp)).trans (World.alloc_heap_new W0 _), hb1⟩
 refine ⟨W0.heap.size + 1, [{ target := .collected W0.heap.size, args := #[] }], W1, { target := .fn (.func 53) #[.pointer (some ⟨Bm, 0, none⟩)], args := #[.func (.yield (W0.heap.size + 1)) #[] #[]] }, W1, 53,
  #[.func (.yield (W0.heap.size + 1)) #[] #[], .pointer (some ⟨Bm, 0, none⟩)], W1, ?_, ?_, ?_, ?_, fun _ => Nat.le_of_ble_eq_true rfl, ?_⟩
 ·rw [← hW1, hsv]; exact run_enterLoop_outer _ _ _ _ _
 ·simp [resolve, go_sem]
 ·intro f' hf'; trivial
 ·have h := enters_of Tryz.func53 rfl rfl #[.func (.yield (W0.heap.size + 1)) #[] #[], .pointer (some ⟨Bm, 0, none⟩)] W1
  simp [invoke, h]
 ·have hBm1 : Bm < W0.heap.size := by omega
  have hmb : mb < w.heap.size := (Array.getElem?_eq_some_iff.1 hb).1
  refine (vals_in (W0.heap.size + 1) Bm mb nn Em val (fun js => ApAt w fn sv w.heap.size (W0.heap.size + 1) W0.heap.size (js.map val)) hEv hval hn (fun pre j W hJ hj hjn hlen => ?_) W1 (ap_abides w fn sv _ _ _ _ (by omega) val) ?_ ?_ hM).mono ?_
  ·obtain ⟨a, b, c, d, e, hve⟩ := hval j
   have := apYield 3 w fn sv w.heap.size (W0.heap.size + 1) W0.heap.size (by omega) (by omega) (by omega) (Nat.le_refl _) (by omega) (pre.map val) (by simp; omega) (val j) a b c d e hve W hJ
   rw [List.map_append]; exact this
  ·rw [World.cell?_of_block (w := w) ((hg1.block Bm hBm1 (by simp)).trans (hg0.block Bm hBm (by simp)))]; exact hm
  ·exact (hg1.block mb (by omega) (by simp)).trans ((hg0.block mb hmb (by simp)).trans hb)
  ·rintro e W2 ⟨⟨v0, rfl⟩, js, hjs, h2⟩
   obtain ⟨v, hv, hrow⟩ := h2.box
   have hend := run_endLoop (P := Tryz.prog) h2.L (by simp [apRec])
   have hg3 := grownBy_putObj W2 (W0.heap.size + 1) (.loop { apRec fn sv w.heap.size W0.heap.size .ready none with state := .exhausted })
   have hd3 : W2.drawn ≤ (W2.putObj (W0.heap.size + 1) (.loop { apRec fn sv w.heap.size W0.heap.size .ready none with state := .exhausted })).drawn := Nat.le_refl _
   have hv3 : (W2.putObj (W0.heap.size + 1) (.loop { apRec fn sv w.heap.size W0.heap.size .ready none with state := .exhausted })).heap[w.heap.size]? = some (.cells #[v] 22 (0, 0)) := (World.putObj_heap_other (by omega)).trans hv
   have hK3 : (W2.putObj (W0.heap.size + 1) (.loop { apRec fn sv w.heap.size W0.heap.size .ready none with state := .exhausted })).heap[W0.heap.size]? = some (.deferred (some [])) := (World.putObj_heap_other (by omega)).trans h2.K
   generalize W2.putObj (W0.heap.size + 1) (.loop { apRec fn sv w.heap.size W0.heap.size .ready none with state := .exhausted }) = W3 at hend hg3 hd3 hv3 hK3
   have hrow3 := row_keep hrow hg3 (fun g hg e => row_ne hrow h2.L (fun cur h => by cases h) (by cases e; exact hg.symm))
   have hb3 : BelowD w W3 := belowD_grown h2.below hg3 hd3 (fun k e => by cases e; omega)
   obtain ⟨hc3, hf3⟩ := cell_of_box hv3
   refine ⟨none, W3, hend, ?_⟩
   gi_wp2
   rw [← hs0]
   refine ⟨by simp, .inl ⟨_, _, rfl, run_takeDeferred hK3, ?_⟩⟩
   have hlj : (js.map val).length = nn := by rw [List.length_map, hjs.length_eq, List.length_range]
   rw [hlj] at hrow3
   exact ⟨_, results_tmp rfl _ _ _, v, js, rfl, hjs, row_keep hrow3 (grownBy_putObj _ _ _) (fun g hg e => row_ne hrow3 hK3 (fun cur h => by cases h) (by cases e; exact hg.symm)), belowD_grown hb3 (grownBy_putObj _ _ _) (Nat.le_refl _) (fun k e => by cases e; omega)⟩

end Go.Proofs.Tryz
end

section
namespace Go.Proofs.Tryz
open Go Go.Vm
open Go.RowKit (Below)
set_option maxRecDepth 20000
set_option maxHeartbeats 2000000
theorem collect (Bm mb nn : Nat) (Em : Array MapEntry) (val : Nat → Value) (hEv : ∀ j e, Em[j]? = some e → e.born = j ∧ e.val = val j) (hval : ∀ j, ∃ a b c d e, val j = sV5 a b c d e) (hn : Em.size = nn) (hN : nn < 1000000)
 (w : World) (hBm : Bm < w.heap.size) (hm : w.cell? ⟨Bm, 0, none⟩ = some (.map (some mb))) (hb : w.heap[mb]? = some (.map Em nn)) :
 CallsIn Fence.wide 6 Tryz.prog 52 #[.func (.func 53) #[] #[.pointer (some ⟨Bm, 0, none⟩)]] w fun e w' =>
  ∃ (v : Value) (js : List Nat), e = .returned v ∧ js.Perm (List.range nn) ∧ w'.ownsRow w.heap.size 40 5 v nn (flatV (js.map val)) ∧ BelowD w w' := by
 refine callsIn_of_wp Tryz.func52 rfl trivial ?_ rfl
 simp only [Tryz.ntmps52, List.size_toArray, List.length_cons, List.length_nil, Nat.reduceAdd, Nat.reduceSub, Array.replicate_succ, Array.replicate_zero, List.push_toArray, List.append_toArray, List.nil_append, List.cons_append]
 gi_wp2
 refine ⟨trivial, (appendSeq Bm mb nn Em val hEv hval hn hN w hBm hm hb).mono ?_⟩
 rintro e w' ⟨v, js, rfl, hjs, hrow, hb'⟩
 dsimp only
 (try go_frame)
 gi_wp2
 exact ⟨rfl, _, results_tmp rfl _ _ _, v, js, rfl, hjs, hrow, hb'⟩
theorem sortedFunc (Bm mb nn : Nat) (Em : Array MapEntry) (val : Nat → Value) (hEv : ∀ j e, Em[j]? = some e → e.born = j ∧ e.val = val j) (hval : ∀ j, ∃ a b c d e, val j = sV5 a b c d e) (hn : Em.size = nn) (hN : nn < 1000000)
 (w : World) (hBm : Bm < w.heap.size) (hm : w.cell? ⟨Bm, 0, none⟩ = some (.map (some mb))) (hb : w.heap[mb]? = some (.map Em nn)) (fv : Value) (R : Ending → World → Prop)
 (hS : ∀ (v : Value) (js : List Nat) (W : World), js.Perm (List.range nn) → W.ownsRow w.heap.size 40 5 v nn (flatV (js.map val)) → BelowD w W → CallsIn Fence.wide 6 Tryz.prog 42 #[v, fv] W fun e w' => ∃ u, e = .returned u ∧ R (.returned v) w') :
 CallsIn Fence.wide 7 Tryz.prog 27 #[.func (.func 53) #[] #[.pointer (some ⟨Bm, 0, none⟩)], fv] w R := by
 refine callsIn_of_wp Tryz.func27 rfl trivial ?_ rfl
 simp only [Tryz.ntmps27, List.size_toArray, List.length_cons, List.length_nil, Nat.reduceAdd, Nat.reduceSub, Array.replicate_succ, Array.replicate_zero, List.push_toArray, List.append_toArray, List.nil_append, List.cons_append]
 gi_wp2
 refine ⟨trivial, (collect Bm mb nn Em val hEv hval hn hN w hBm hm hb).mono ?_⟩
 rintro e W ⟨v, js, rfl, hjs, hrow, hb'⟩
 dsimp only
 (try go_frame)
 gi_wp2
 refine ⟨trivial, (hS v js W hjs hrow hb').mono ?_⟩
 rintro e w' ⟨u, rfl, hR⟩
 dsimp only
 (try go_frame)
 gi_wp2
 exact hR
end Go.Proofs.Tryz
end

section
namespace Go.Proofs.Tryz
open Go Go.Vm Go.Sort
open Go.RowKit (Below)
set_option maxRecDepth 20000
set_option maxHeartbeats 2000000
def sV (s : Sg) : Value := sV5 s.n s.x s.y s.lo s.hi
theorem rep_int {w : World} {A : Sta} {k : IntKind} {n : Int} {v : Value} (h : Rep w A (.int k n) v) : v = .int k n := by cases h; rfl
theorem rep_sV {w : World} {A : Sta} {s : Sg} {v : Value} (h : Rep w A (sgD s) v) : v = sV s := by
 cases h with
 | @agg cs vs hl h1 hr =>
  obtain ⟨l⟩ := vs
  match l, hl with
  | [a, b, c, d, e], _ =>
   have e0 := rep_int (hr 0 _ a rfl rfl)
   have e1 := rep_int (hr 1 _ b rfl rfl)
   have e2 := rep_int (hr 2 _ c rfl rfl)
   have e3 := rep_int (hr 3 _ d rfl rfl)
   have e4 := rep_int (hr 4 _ e rfl rfl)
   subst e0; subst e1; subst e2; subst e3; subst e4
   rfl
theorem flat_get {α : Type} {f : α → List Value} {k : Nat} (hk : ∀ x, (f x).length = k) : ∀ (l : List α) (i j : Nat), j < k → (l.flatMap f)[i * k + j]? = (l[i]?).bind fun x => (f x)[j]?
 | [], i, j, _ => by simp
 | a :: l, 0, j, hj => by
  simp only [List.flatMap_cons, Nat.zero_mul, Nat.zero_add, List.getElem?_cons_zero, Option.bind_some]
  rw [List.getElem?_append_left (by rw [hk]; exact hj)]
 | a :: l, i + 1, j, hj => by
  simp only [List.flatMap_cons, List.getElem?_cons_succ]
  rw [List.getElem?_append_right (by rw [hk, Nat.add_mul]; omega), hk, show (i + 1) * k + j - k = i * k + j by rw [Nat.add_mul]; omega]
  exact flat_get hk l i j hj
def valJ (l : List Sg) (j : Nat) : Value := match l[j]? with
 | some s => sV s
 | none => sV5 0 0 0 0 0
theorem valJ_five (l : List Sg) (j : Nat) : ∃ a b c d e, valJ l j = sV5 a b c d e := by
 unfold valJ; split
 ·exact ⟨_, _, _, _, _, rfl⟩
 ·exact ⟨_, _, _, _, _, rfl⟩
theorem perm_take {l : List Sg} {js : List Nat} (h : js.Perm (List.range l.length)) : ∃ m : List Sg, m.Perm l ∧ flatV (js.map (valJ l)) = m.flatMap (fun s => (sV s).cells.toList) ∧ m.length = l.length := by
 refine ⟨js.map fun j => (l[j]?).getD ⟨0, 0, 0, 0, 0⟩, ?_, ?_, ?_⟩
 ·have h2 := h.map fun j => (l[j]?).getD ⟨0, 0, 0, 0, 0⟩
  have : (List.range l.length).map (fun j => (l[j]?).getD ⟨0, 0, 0, 0, 0⟩) = l := by
   apply List.ext_getElem?
   intro j
   rw [List.getElem?_map]
   rcases Nat.lt_or_ge j l.length with h | h
   ·rw [List.getElem?_range h]; simp [h]
   ·rw [List.getElem?_eq_none (by simpa using h), List.getElem?_eq_none h]; rfl
  rwa [this] at h2
 ·unfold flatV
  rw [List.flatMap_map, List.flatMap_map]
  congr 1
  funext j
  unfold valJ
  cases l[j]? <;> rfl
 ·rw [List.length_map, h.length_eq, List.length_range]
theorem sort_perm {cf : Sg → Sg → Int} (hO : SWO fun x y => decide (cf x y < 0)) {l m : List Sg} (hp : m.Perm l) (hn : l.Nodup) (hT : ∀ x ∈ l, ∀ y ∈ l, ¬ cf x y < 0 → ¬ cf y x < 0 → x = y) : sortL cf m = sortL cf l :=
 sortL_eq hO ((sortL_perm cf m).trans hp) (sortL_strict hO (hp.nodup_iff.2 hn) fun x hx y hy => hT x (hp.mem_iff.1 hx) y (hp.mem_iff.1 hy))
theorem row_as {B B' : Nat} {L L' : Lay} {w : World} {A : Sta} {b b' et sz : Nat} {es : List D} {fz : Bool} (h : BR B L w A b (.row et sz es fz)) (hb : B' ≤ B) (hι : L'.ι b' = L.ι b) (hh : L'.hd b' = L.hd b) : BR B' L' w A b' (.row et sz es fz) := by
 obtain ⟨xs, h1, h2, h3, h4, h5⟩ := h
 refine ⟨xs, ?_, h2, h3, ?_, ?_⟩
 ·rw [hh]
  refine ⟨h1.1, ?_⟩
  rcases h1.2 with hn | ⟨g, cap, cur, hv, hbg, rest⟩
  ·exact .inl hn
  ·exact .inr ⟨g, cap, cur, hv, Nat.le_trans hb hbg, rest⟩
 ·intro g hg; rw [hι]; rw [hh] at hg; exact h4 g hg
 ·rw [hι, hh]; exact h5
theorem row_of_flat {B : Nat} {L : Lay} {w : World} {A : Sta} {b : Nat} {v : Value} {m : List Sg} (hr : w.ownsRow B 40 5 v m.length (m.flatMap fun s => (sV s).cells.toList)) (hh : L.hd b = v) (hι : ∀ g, v.ownBlock = some g → g = L.ι b) (hA : v ≠ .slice none 0 0 → ∀ o, ¬ A (L.ι b) o) :
 BR B L w A b (.row 40 5 (m.map sgD) false) := by
 refine ⟨_, by rw [hh, List.length_map]; exact hr, fun i e he => ?_, fun i e j c u he hc hu => ?_, fun g hg => hι g (by rw [← hh]; exact hg), fun hne o ho => absurd ho (hA (by rw [← hh]; exact hne) o)⟩
 ·rw [List.getElem?_map, Option.map_eq_some_iff] at he
  obtain ⟨s, _, rfl⟩ := he
  exact ⟨rfl, rfl⟩
 ·rw [List.getElem?_map, Option.map_eq_some_iff] at he
  obtain ⟨s, hs, rfl⟩ := he
  have hj : j < 5 := lt_of_get hc
  rw [flat_get (k := 5) (fun _ => rfl) m i j hj, hs, Option.bind_some] at hu
  match j, hj with
  | 0, _ => cases hc; cases hu; exact .int _ _
  | 1, _ => cases hc; cases hu; exact .int _ _
  | 2, _ => cases hc; cases hu; exact .int _ _
  | 3, _ => cases hc; cases hu; exact .int _ _
  | 4, _ => cases hc; cases hu; exact .int _ _
theorem lk_cs {k : Nat} {x z : Bx} {r : List (Nat × Bx)} {b : Nat} (h : lk ((k, x) :: r) b = some z) : (b = k ∧ z = x) ∨ (b ≠ k ∧ lk r b = some z) := by
 rw [lk] at h
 split at h
 ·rename_i h1; cases h; exact .inl ⟨(Nat.eq_of_beq_eq_true h1).symm, rfl⟩
 ·rename_i h1
  refine .inr ⟨?_, h⟩
  rintro rfl
  rw [Nat.beq_refl] at h1; cases h1
theorem xv_SortedVals (cf : Sg → Sg → Int) (hO : SWO fun x y => decide (cf x y < 0)) (g : FuncId) (l : List Sg) (hnd : l.Nodup) (hT : ∀ x ∈ l, ∀ y ∈ l, ¬ cf x y < 0 → ¬ cf y x < 0 → x = y)
 (hcmp : ∀ x ∈ l, ∀ y ∈ l, Ev Tryz.prog g ([sgD x, sgD y] ++ []) (.int .i64 (cf x y))) (hlen : l.length < 1000000) (kt et : Nat) (kd : TypeDesc) (es : List (D × D)) (hes : es.map (·.2) = l.map sgD) (fz : Bool) :
 EvX Tryz.prog 27 [.fnv 53 [.box 1000], .d (.fn g [])] [(1000, .var [.mp 1001] fz), (1001, .map kt et kd es)]
  (.own 9 5 l.length) [(1000, .var [.mp 1001] fz), (1001, .map kt et kd es), (9, .row 40 5 ((sortL cf l).map sgD) false)] := by
 refine ⟨⟨_, Tryz.func27, rfl, rfl⟩, ?_⟩
 intro B0 w A L vals hB0 hA hl hv hmen hH
 obtain ⟨v1, v2, rfl⟩ : ∃ v1 v2, vals = #[v1, v2] := by
  obtain ⟨vl⟩ := vals
  match vl, hl with
  | [a, b], _ => exact ⟨a, b, rfl⟩
 obtain rfl : v1 = .func (.func 53) #[] #[.pointer (some ⟨L.ι 1000, 0, none⟩)] := by
  cases hv 0 _ v1 rfl rfl with
  | @fnv f caps vs hl hr =>
   obtain ⟨vl⟩ := vs
   match vl, hl with
   | [a], _ => rw [show a = _ from hr 0 _ a rfl rfl]
 have hfv := hv 1 _ v2 rfl rfl
 obtain ⟨C, t, c1, c2, c3, _⟩ := hH.br 1000 _ rfl
 obtain ⟨Em, clock, m1, m2, m3, m4, m5, m6⟩ := hH.br 1001 _ rfl
 subst m6
 have hmv : w.cell? ⟨L.ι 1000, 0, none⟩ = some (.map (some (L.ι 1001))) := by
  obtain ⟨cl⟩ := C
  match cl, c2 with
  | [a], _ =>
   have h := c3 0 _ a rfl rfl
   have : a = .map (some (L.ι 1001)) := by cases h; rfl
   rw [(cell_of_box c1).1, this]
 have hesl : es.length = l.length := by have := congrArg List.length hes; simpa using this
 have hEv : ∀ (j : Nat) (e : MapEntry), Em[j]? = some e → e.born = j ∧ e.val = valJ l j := by
  intro j e he
  refine ⟨m5 j e he, ?_⟩
  have hj : j < es.length := by rw [← m2]; exact (Array.getElem?_eq_some_iff.1 he).1
  have h2 := (m3 j es[j] e (List.getElem?_eq_getElem hj) he).2.1
  have h3 : es[j].2 = sgD l[j] := by
   have := congrArg (·[j]?) hes
   simp only [List.getElem?_map, List.getElem?_eq_getElem hj, List.getElem?_eq_getElem (show j < l.length by omega), Option.map_some, Option.some.injEq] at this
   exact this
  rw [h3] at h2
  rw [rep_sV h2, valJ, List.getElem?_eq_getElem (show j < l.length by omega)]
 have hBm : L.ι 1000 < w.heap.size := (hH.lo 1000 _ (L.ι 1000) rfl rfl).2
 have hmb : L.ι 1001 < w.heap.size := (hH.lo 1001 _ (L.ι 1001) rfl rfl).2
 rw [← callsIn_wide (n := 7)]
 refine sortedFunc (L.ι 1000) (L.ι 1001) es.length Em (valJ l) hEv (valJ_five l) m2 (by omega) w hBm hmv m1 v2 _ fun v js W hjs hrow hbW => ?_
 rw [hesl] at hjs hrow
 obtain ⟨m, hm, hfl, hml⟩ := perm_take hjs
 rw [hfl, ← hml] at hrow
 have hg0 : ∃ gb, ∀ g, v.ownBlock = some g → g = gb := by
  cases hv' : v.ownBlock with
  | none => exact ⟨0, fun g h => by cases h⟩
  | some g' => exact ⟨g', fun g h => by cases h; rfl⟩
 obtain ⟨gb, hgb⟩ := hg0
 have hone : Vm.oneV v = true := by
  rcases hrow.2 with ⟨rfl, _⟩ | ⟨_, _, _, rfl, _⟩ <;> rfl
 have hblk : ∀ g, v.ownBlock = some g → w.heap.size ≤ g ∧ g < W.heap.size := fun g hg => ownsRow_lt hrow hg
 have hAv : v ≠ .slice none 0 0 → ∀ o, ¬ A gb o := by
  intro hne o ho
  rcases hrow.2 with ⟨h, _⟩ | ⟨g', _, _, e, _⟩
  ·exact hne h
  ·have := hblk g' (by rw [e]; rfl)
   have e2 := hgb g' (by rw [e]; rfl)
   have := hA _ o ho
   omega
 have hsort := EvX.sortFunc ly_LyS sgD 5 (fun w => Tryz.isAgg40 w) (fun w => Tryz.sizeOf40 w) (fun _ => rfl) (fun x c hc => by
  simp only [sgD, D.cells, List.mem_cons, List.not_mem_nil, or_false] at hc
  rcases hc with rfl | rfl | rfl | rfl | rfl <;> rfl) (fun _ => ⟨_, rfl⟩) cf hO g [] m (fun x hx y hy => hT x (hm.mem_iff.1 hx) y (hm.mem_iff.1 hy)) (fun x hx y hy => hcmp x (hm.mem_iff.1 hx) y (hm.mem_iff.1 hy)) (by omega) 9
 have hH2 : HOk w.heap.size (L.at 9 gb v) W A [(9, .row 40 5 (m.map sgD) false)] := by
  refine ⟨fun b x hx => ?_, fun b x g hx ho => ?_, fun b b' x x' g hx hx' _ _ => ?_, fun b x b' hx hmn => ?_⟩
  ·rcases lk_cs hx with ⟨rfl, rfl⟩ | ⟨_, h⟩
   ·exact row_of_flat hrow Lay.at_hd (fun g hg => by rw [Lay.at_ι]; exact hgb g hg) (fun hne o => by rw [Lay.at_ι]; exact hAv hne o)
   ·cases h
  ·rcases lk_cs hx with ⟨rfl, rfl⟩ | ⟨_, h⟩
   ·exact hblk g (by rw [← show (L.at 9 gb v).hd 9 = v from Lay.at_hd]; exact ho)
   ·cases h
  ·rcases lk_cs hx with ⟨rfl, rfl⟩ | ⟨_, h⟩
   ·rcases lk_cs hx' with ⟨rfl, rfl⟩ | ⟨_, h⟩
    ·rfl
    ·cases h
   ·cases h
  ·rcases lk_cs hx with ⟨rfl, rfl⟩ | ⟨_, h⟩
   ·cases hmn
   ·cases h
 have hrun := hsort.run w.heap.size W A (L.at 9 gb v) #[v, v2] hbW.size (fun g o hg => Nat.lt_of_lt_of_le (hA g o hg) hbW.size) rfl (fun j c u hc hu => by
  match j with
  | 0 =>
   simp only [List.getElem?_cons_zero, Option.some.injEq] at hc
   simp only [List.getElem?_toArray, List.getElem?_cons_zero, Option.some.injEq] at hu
   subst hc; subst hu
   have := RV.own (L := L.at 9 gb v) (w := W) (A := A) 9 5 m.length (by rw [Lay.at_hd]; exact hone)
   rwa [Lay.at_hd] at this
  | 1 =>
   simp only [List.getElem?_cons_succ, List.getElem?_cons_zero, Option.some.injEq] at hc
   simp only [List.getElem?_toArray, List.getElem?_cons_succ, List.getElem?_cons_zero, Option.some.injEq] at hu
   subst hc; subst hu
   exact hfv.frame (fun _ _ h => h) (fun g o hg => hbW.cell (p := ⟨g, o, none⟩) (hA g o hg)) (fun b hb => by cases hb)
  | j + 2 => simp at hc) (fun j c b hc hb => by
  match j with
  | 0 =>
   simp only [List.getElem?_cons_zero, Option.some.injEq] at hc
   subst hc
   have := Nat.eq_of_beq_eq_true (show Nat.beq b 9 = true from hb)
   subst this
   simp [lk]
  | 1 =>
   simp only [List.getElem?_cons_succ, List.getElem?_cons_zero, Option.some.injEq] at hc
   subst hc; cases hb
  | j + 2 => simp at hc) hH2
 rw [callsIn_wide]
 refine hrun.mono fun e w' he => ?_
 obtain ⟨u, A', L', rfl, -, p1, p2, p3, p4, p5, p6, p7, p8, p9, p10, p11, p12, -⟩ := he
 refine ⟨u, rfl, ?_⟩
 have hd9 : L'.hd 9 = v := (p12 9 (by simp [lk]) (by simp [lk])).hd.trans Lay.at_hd
 have hclm : ∀ g, claims (L.at 9 gb v) [(9, .row 40 5 (m.map sgD) false)] g → w.heap.size ≤ g := by
  rintro g ⟨b, x, hx, ho⟩
  rcases lk_cs hx with ⟨rfl, rfl⟩ | ⟨_, h⟩
  ·exact (hH2.lo 9 _ g (by simp [lk]) ho).1
  ·cases h
 have hblock : ∀ k, k < w.heap.size → w'.heap[k]? = w.heap[k]? := fun k hk => (p5 k (by have := hbW.size; omega) fun hc => by have := hclm k hc; omega).trans (hbW.block k hk)
 have hcell : ∀ g o, A g o → w'.cell? ⟨g, o, none⟩ = w.cell? ⟨g, o, none⟩ := fun g o hg => World.cell?_of_block (w := w) (hblock g (hA g o hg))
 have horg : ∀ g o, A' g o → A g o ∨ w.heap.size ≤ g := by
  intro g o hg
  rcases p9 g o hg with h | h | h
  ·exact .inl h
  ·exact .inr (by have := hbW.size; omega)
  ·exact .inr (hclm g h)
 have hold : ∀ b x, lk [(1000, Bx.var [.mp 1001] fz), (1001, .map kt et kd es)] b = some x → b ≠ 9 ∧ BR B0 (L.at 9 (L'.ι 9) (L'.hd 9)) w' A' b x ∧ (∀ g, own (L.at 9 (L'.ι 9) (L'.hd 9)) b x g ↔ own L b x g) ∧ (∀ g, own L b x g → g < w.heap.size) := by
  intro b x hx
  have hb9 : b ≠ 9 := by
   rcases lk_cs hx with ⟨rfl, _⟩ | ⟨_, h⟩
   ·decide
   ·rcases lk_cs h with ⟨rfl, _⟩ | ⟨_, h⟩
    ·decide
    ·cases h
  have hlt : ∀ g, own L b x g → g < w.heap.size := fun g ho => (hH.lo b x g hx ho).2
  refine ⟨hb9, (hH.br b x hx).keep p6 hcell (fun g ho => hblock g (hlt g ho)) (fun g o ho ha => ?_) (Lay.at_eq hb9) rfl (fun b' hb' => Lay.at_eq ?_), fun g => own_eq (Lay.at_eq hb9) (hH.br b x hx).ver, hlt⟩
  ·rcases horg g o ha with h | h
   ·exact h
   ·have := hlt g ho; omega
  ·rintro rfl
   have := hH.cl b x 9 hx hb'
   simp [lk] at this
 have h9 : BR B0 (L.at 9 (L'.ι 9) (L'.hd 9)) w' A' 9 (.row 40 5 ((sortL cf l).map sgD) false) := by
  have h := p10.br 9 _ (by simp [lk]; rfl)
  rw [sort_perm hO hm hnd hT] at h
  exact row_as h hB0 Lay.at_ι Lay.at_hd
 have hown9 : ∀ g, own (L.at 9 (L'.ι 9) (L'.hd 9)) 9 (.row 40 5 ((sortL cf l).map sgD) false) g → w.heap.size ≤ g ∧ g < w'.heap.size := fun g ho => by
  refine p10.lo 9 _ g (by simp [lk]; rfl) ?_
  have e : (L.at 9 (L'.ι 9) (L'.hd 9)).hd 9 = L'.hd 9 := Lay.at_hd
  show (L'.hd 9).ownBlock = some g
  rw [← e]; exact ho
 have hus : ∀ b x, lk [(1000, Bx.var [.mp 1001] fz), (1001, .map kt et kd es), (9, .row 40 5 ((sortL cf l).map sgD) false)] b = some x → lk [(1000, Bx.var [.mp 1001] fz), (1001, .map kt et kd es)] b = some x ∨ (b = 9 ∧ x = .row 40 5 ((sortL cf l).map sgD) false) := by
  intro b x hx
  rcases lk_cs hx with ⟨rfl, rfl⟩ | ⟨h1, hx⟩
  ·exact .inl (by simp [lk])
  ·rcases lk_cs hx with ⟨rfl, rfl⟩ | ⟨h2, hx⟩
   ·exact .inl (by simp [lk])
   ·rcases lk_cs hx with ⟨rfl, rfl⟩ | ⟨_, h⟩
    ·exact .inr ⟨rfl, rfl⟩
    ·cases h
 have hsu : ∀ b x, lk [(1000, Bx.var [.mp 1001] fz), (1001, .map kt et kd es)] b = some x → lk [(1000, Bx.var [.mp 1001] fz), (1001, .map kt et kd es), (9, .row 40 5 ((sortL cf l).map sgD) false)] b ≠ none := by
  intro b x hx
  rcases lk_cs hx with ⟨rfl, rfl⟩ | ⟨h1, hx⟩
  ·simp [lk]
  ·rcases lk_cs hx with ⟨rfl, rfl⟩ | ⟨h2, hx⟩
   ·simp [lk]
   ·cases hx
 refine ⟨v, A', L.at 9 (L'.ι 9) (L'.hd 9), rfl, ?_, p1.trans hbW.os, ⟨p2.1.trans hbW.tape, Nat.le_trans hbW.dr p2.2⟩, p3.trans hbW.output, Nat.le_trans hbW.size p4, fun k hk _ => hblock k hk, p6, hcell, p8, fun g o hg => (horg g o hg).imp id .inl,
  ⟨fun b x hx => ?_, fun b x g hx ho => ?_, fun b b' x x' g hx hx' ho ho' => ?_, fun b x b' hx hmn => ?_⟩, ?_, fun b hb _ => ?_, fun b hb => ?_⟩
 ·have := RV.own (L := L.at 9 (L'.ι 9) (L'.hd 9)) (w := w') (A := A') 9 5 l.length (by rw [Lay.at_hd, hd9]; exact hone)
  have e : (L.at 9 (L'.ι 9) (L'.hd 9)).hd 9 = v := Lay.at_hd.trans hd9
  rw [← e]; exact this
 ·rcases hus b x hx with h | ⟨rfl, rfl⟩
  ·exact (hold b x h).2.1
  ·exact h9
 ·rcases hus b x hx with h | ⟨rfl, rfl⟩
  ·have h2 := hold b x h
   have := hH.lo b x g h ((h2.2.2.1 g).1 ho)
   exact ⟨this.1, by have := h2.2.2.2 g ((h2.2.2.1 g).1 ho); have := hbW.size; omega⟩
  ·have := hown9 g ho; omega
 ·rcases hus b x hx with h | ⟨rfl, rfl⟩
  ·have h2 := hold b x h
   have ho2 := (h2.2.2.1 g).1 ho
   rcases hus b' x' hx' with h' | ⟨rfl, rfl⟩
   ·have h2' := hold b' x' h'
    exact hH.inj b b' x x' g h h' ho2 ((h2'.2.2.1 g).1 ho')
   ·have := hown9 g ho'; have := h2.2.2.2 g ho2; omega
  ·rcases hus b' x' hx' with h' | ⟨rfl, rfl⟩
   ·have h2' := hold b' x' h'
    have := hown9 g ho; have := h2'.2.2.2 g ((h2'.2.2.1 g).1 ho'); omega
   ·rfl
 ·rcases hus b x hx with h | ⟨rfl, rfl⟩
  ·have := hH.cl b x b' h hmn
   cases hb' : lk [(1000, Bx.var [.mp 1001] fz), (1001, .map kt et kd es)] b' with
   | none => exact absurd hb' this
   | some y => exact hsu b' y hb'
  ·cases hmn
 ·rintro g ⟨b, x, hx, ho⟩
  rcases hus b x hx with h | ⟨rfl, rfl⟩
  ·exact .inr ⟨b, x, h, ((hold b x h).2.2.1 g).1 ho⟩
  ·exact .inl (hown9 g ho).1
 ·cases hb' : lk [(1000, Bx.var [.mp 1001] fz), (1001, .map kt et kd es)] b with
  | none => exact absurd hb' hb
  | some y => exact Lay.at_eq (hold b y hb').1
 ·have := Nat.eq_of_beq_eq_true (show Nat.beq b 9 = true from hb)
  subst this
  simp [lk]
end Go.Proofs.Tryz
end

section
namespace Go.Proofs.Tryz
open Go Go.Vm Go.Sort
set_option maxRecDepth 20000
set_option maxHeartbeats 4000000
def hasN (l : List Sg) (n : Int) : Bool := l.any fun t => t.n == n
def newB (a b : List Sg) : List Sg := b.filter fun s => !hasN a s.n
def cfl (a b : List Sg) : Bool := b.any fun s => match a.find? fun t => t.n == s.n with
 | some t => decide (t ≠ s)
 | none => false
def cfNum (a b : Sg) : Int := cmpI a.n b.n
def mergeRes (a b : List Sg) : List Sg × Int := if chkErr sgB Sg.n a ≠ 0 then ([], chkErr sgB Sg.n a) else if chkErr sgB Sg.n b ≠ 0 then ([], chkErr sgB Sg.n b) else
 if cfl a b = true then ([], 22) else if 500 < (a ++ newB a b).length then ([], 8) else (sortL cfNum (a ++ newB a b), 0)
theorem cfNum_lt (a b : Sg) : cfNum a b < 0 ↔ a.n < b.n := by
 unfold cfNum cmpI; split <;> (try split) <;> omega
theorem swoNum : SWO fun x y => decide (cfNum x y < 0) where
 irrefl x := by simp [cfNum_lt]
 trans x y z := by simp only [decide_eq_true_eq, cfNum_lt]; omega
 ntrans x y z := by simp only [decide_eq_false_iff_not, cfNum_lt]; omega
theorem ev_Mrg1 (a b : Sg) : Ev Tryz.prog 29 [sgD a, sgD b] (iD (cfNum a b)) := by
 have h := ev_Compare a.n b.n
 refine ev_of_awp tysOk mixed (fn := Tryz.f29) Tryz.func29 rfl rfl rfl ?_
 conv => whnf
 repeat' (first|((with_reducible refine AltK.l ?_);(conv=>whnf);(first|(refine CallK.mk _ (h) ?_));conv=>whnf)|fail)
 rfl
theorem xv_Values (kt et : Nat) (kd : TypeDesc) (es : List (D × D)) : EvX Tryz.prog 28 [.mp 1001] [(1001, .map kt et kd es)] (.fnv 53 [.box 1]) [(1001, .map kt et kd es), (1, .var [.mp 1001] false)] := by
 refine evx_of_awp tysOk mixed (fn := Tryz.f28) Tryz.func28 rfl rfl rfl ?_
 conv => whnf
 skip
 exact ⟨⟨[], (by refine ⟨?_, ?_, rfl⟩<;>(repeat' (first|exact True.intro|exact rfl|(refine ⟨?_,?_⟩)|(intro h;cases h;done)|fail));done)⟩, rfl⟩
theorem mput_same {v x : D} : ∀ {es : List (D × D)}, mget es x = some v → (∀ p ∈ es, keyEq x p.1 = true → p.1 = x) → mput es x v = es
 |(k, u) :: r, h, hk => by
  rw [mget] at h
  rw [mput]
  split at h
  ·rename_i h1
   cases h
   have h2 : k = x := hk (k, v) (by simp) h1
   rw [if_pos h1, h2]
  ·rename_i h1
   rw [if_neg h1, mput_same h fun p hp => hk p (by simp [hp])]
theorem hasN_iff {l : List Sg} {n : Int} : hasN l n = true ↔ ∃ t ∈ l, t.n = n := by simp [hasN]
theorem hasN_no {l : List Sg} {n : Int} : hasN l n = false ↔ ∀ t ∈ l, t.n ≠ n := by simp [hasN]
theorem newB_snoc {a b : List Sg} {i : Nat} {s : Sg} (h : b[i]? = some s) : newB a (b.take (i + 1)) = if hasN a s.n = true then newB a (b.take i) else newB a (b.take i) ++ [s] := by
 rw [newB, take_snoc h, List.filter_append]
 by_cases hp : hasN a s.n = true <;> simp [hp, newB]
theorem newB_len (a b : List Sg) : (newB a b).length ≤ b.length := List.length_filter_le _ _
theorem joined_two {a b : List Sg} (ha : NoTwo a) (hb : NoTwo b) : NoTwo (a ++ newB a b) := by
 unfold NoTwo
 rw [List.pairwise_append]
 refine ⟨ha, hb.sublist List.filter_sublist, fun x hx y hy => ?_⟩
 have := (List.mem_filter.1 hy).2
 simp only [Bool.not_eq_true', hasN_no] at this
 exact this x hx
theorem joined_find {a b : List Sg} {i : Nat} {s : Sg} (hb : NoTwo b) (h : b[i]? = some s) : (a ++ newB a (b.take i)).find? (fun t => t.n == s.n) = a.find? (fun t => t.n == s.n) := by
 rw [List.find?_append]
 have : (newB a (b.take i)).find? (fun t => t.n == s.n) = none := by
  rw [List.find?_eq_none]
  intro x hx
  have hx := (List.mem_filter.1 hx).1
  have h2 : NoTwo (b.take i ++ [s]) := by rw [← take_snoc h]; exact hb.sublist (List.take_sublist _ _)
  have := (List.pairwise_append.1 h2).2.2 x hx s (by simp)
  simpa using this
 rw [this, Option.or_none]
theorem cfl_snoc {a b : List Sg} {i : Nat} {s : Sg} (h : b[i]? = some s) : cfl a (b.take (i + 1)) = (cfl a (b.take i) || match a.find? fun t => t.n == s.n with
 | some t => decide (t ≠ s)
 | none => false) := by
 rw [cfl, take_snoc h, List.any_append]
 simp [cfl]
theorem cfl_yes {a b : List Sg} {i : Nat} {s t : Sg} (h : b[i]? = some s) (hf : (a.find? fun t => t.n == s.n) = some t) (hne : t ≠ s) : cfl a b = true := by
 rw [cfl, List.any_eq_true]
 refine ⟨s, List.mem_of_getElem? h, ?_⟩
 rw [hf]; simpa using hne
end Go.Proofs.Tryz
end

section
namespace Go.Proofs.Tryz
open Go Go.Vm Go.Sort
set_option maxRecDepth 20000
set_option maxHeartbeats 4000000
theorem hok_of {B0 : Nat} {L : Lay} {w : World} {A : Sta} {hs hs' : List (Nat × Bx)} (h : ∀ b, lk hs b = lk hs' b) (k : HOk B0 L w A hs) : HOk B0 L w A hs' := by
 have e : lk hs = lk hs' := funext h
 obtain ⟨k1, k2, k3, k4⟩ := k
 rw [e] at k1 k2 k3 k4
 exact ⟨k1, k2, k3, k4⟩
theorem EvX.order {P : Program} {f : FuncId} {xs : List AV} {hs hs' us us' : List (Nat × Bx)} {v : AV} (h : EvX P f xs hs v us) (e : ∀ b, lk hs b = lk hs' b) (e' : ∀ b, lk us b = lk us' b) : EvX P f xs hs' v us' := by
 refine ⟨h.fn, fun B0 w A L vals p1 p2 p3 p4 p5 p6 => ?_⟩
 have e1 : lk hs = lk hs' := funext e
 have e2 : lk us = lk us' := funext e'
 refine (h.run B0 w A L vals p1 p2 p3 p4 (fun j c b q1 q2 => by rw [e1]; exact p5 j c b q1 q2) (hok_of (fun b => (e b).symm) p6)).mono ?_
 rintro r w' ⟨u, A', L', q1, q2, q3, q4, q5, q6, q7, q8, q9, q10, q11, q12, q13, q14, q15⟩
 have c1 : claims L hs = claims L hs' := by funext g; simp only [claims, e1]
 have c2 : claims L' us = claims L' us' := by funext g; simp only [claims, e2]
 rw [c1] at q7 q11 q13
 rw [c2] at q13
 rw [e1, e2] at q14
 rw [e2] at q15
 exact ⟨u, A', L', q1, q2, q3, q4, q5, q6, q7, q8, q9, q10, q11, hok_of e' q12, q13, q14, q15⟩
theorem lk_swap {b c b' : Nat} {x y : Bx} {r : List (Nat × Bx)} (h : Nat.beq b c = false) : lk ((b, x) :: (c, y) :: r) b' = lk ((c, y) :: (b, x) :: r) b' := by
 simp only [lk]
 cases h1 : Nat.beq b b' with
 | true =>
  cases h2 : Nat.beq c b' with
  | true =>
   have e1 := Nat.eq_of_beq_eq_true h1
   have e2 := Nat.eq_of_beq_eq_true h2
   subst e1; subst e2; rw [Nat.beq_refl] at h; cases h
  | false => rfl
 | false => rfl
theorem byN_key {l : List Sg} {n : Int} : ∀ p ∈ byN l, keyEq (iD n) p.1 = true → p.1 = iD n := by
 intro p hp h
 obtain ⟨s, _, rfl⟩ := List.mem_map.1 hp
 simp only [keyEq, iD, decide_true, Bool.true_and, decide_eq_true_eq] at h
 rw [h]
theorem byN_same {l : List Sg} (hu : NoTwo l) {s : Sg} (h : (l.find? fun t => t.n == s.n) = some s) : mput (byN l) (iD s.n) (sgD s) = byN l :=
 mput_same (by rw [mget_byN _ _ hu, h]; rfl) byN_key
theorem byN_new {l : List Sg} (hu : NoTwo l) {s : Sg} (h : (l.find? fun t => t.n == s.n) = none) : mput (byN l) (iD s.n) (sgD s) = byN (l ++ [s]) := by
 rw [mput_new (by rw [mget_byN _ _ hu, h]; rfl)]
 simp [byN]
theorem ev_Merge (a b : List Sg) : Ev Tryz.prog 9 [.sl 5 (a.map sgD), .sl 5 (b.map sgD)] (sgsE (mergeRes a b)) := by
 have hla : (a.map sgD).length = a.length := List.length_map _
 have hlb : (b.map sgD).length = b.length := List.length_map _
 have h1 := ev_CheckS a
 have h2 := ev_CheckS b
 by_cases c0 : chkErr sgB Sg.n a = 0
 ·rw [mergeRes, if_neg (by simpa using c0)]
  by_cases c1 : chkErr sgB Sg.n b = 0
  ·rw [if_neg (by simpa using c1)]
   rw [c0] at h1
   rw [c1] at h2
   obtain ⟨ha5, haall, hau⟩ := chk_zero c0
   obtain ⟨hb5, hball, hbu⟩ := chk_zero c1
   have h3 := EvX.newM (xs := [.sl 5 (a.map sgD)]) (xv_byNumber a hau (by omega)) 29
   refine ev_of_awp tysOk mixed (fn := Tryz.f9) Tryz.func9 rfl rfl rfl ?_
   conv => whnf
   skip
   refine LoopK.unr 3 ?_
   conv => whnf
   repeat' (first|((refine PickE.mk _ rfl ?_);conv=>whnf)|((refine Split.is_false rfl ?_);conv=>whnf)|((refine Split.is_true rfl ?_);conv=>whnf)|((with_reducible refine Need.mk ?_ ?_);(first|omega|rfl|decide|(refine ⟨?_,?_⟩<;>simp<;>omega)|(simp;omega));conv=>whnf)|((with_reducible refine Wr.inr ?_ ?_);(first|omega|(simp;omega));conv=>whnf)|((with_reducible refine AltK.r ?_);(conv=>whnf);(first|(refine CallX.mk _ _ (h3) rfl ?_));conv=>whnf)|((with_reducible refine AltK.l ?_);(conv=>whnf);(first|(refine CallK.mk _ (h1) ?_)|(refine CallK.mk _ (h2) ?_));conv=>whnf)|fail)
   refine LoopK.o2 (fun i : Nat => i ≤ b.length ∧ cfl a (b.take i) = false) (fun i => [(32, .d (.int .i64 i))]) (fun i => [(29, .map 3 40 (.int .i64) (byN (a ++ newB a (b.take i))))]) (fun i => b.length - i) 0 ⟨by simp, rfl⟩ (by refine ⟨?_, ?_, rfl⟩<;>(repeat' (first|exact True.intro|exact rfl|(refine ⟨?_,?_⟩)|(intro h;cases h;done)|((first|refine own_congr ?_|refine int_congr ?_|skip);simp [newB];done)|fail));done) ?_
   rintro i ⟨hi, hc⟩
   have hnx : (i : Int) < b.length → ∃ m, b[i]? = some m := fun h => some_of_lt (by omega)
   have hju : NoTwo (a ++ newB a (b.take i)) := joined_two hau (hbu.sublist (List.take_sublist _ _))
   conv => whnf
   repeat' (first|((with_reducible refine Split.dec (fun _=>?_) (fun _=>?_))<;>conv=>whnf)|((with_reducible refine Need.mk ?_ ?_);(first|omega|rfl|decide|(refine ⟨?_,?_⟩<;>simp<;>omega)|(simp;omega));conv=>whnf)|fail)
   ·obtain ⟨s, hs⟩ := hnx (by omega)
    conv => whnf
    repeat' (first|((refine PickE.map i hs (by omega) ?_);conv=>whnf)|((with_reducible refine Need.mk ?_ ?_);(first|omega|rfl|decide|(refine ⟨?_,?_⟩<;>simp<;>omega)|(simp;omega));conv=>whnf)|fail)
    refine LookK.mk (fun v hv => ?_) (fun hv => ?_)
    ·rw [mget_byN _ _ hju, joined_find hbu hs, Option.map_eq_some_iff] at hv
     obtain ⟨t, ht, rfl⟩ := hv
     have hst := cfl_snoc (a := a) hs
     rw [ht, hc, Bool.false_or] at hst
     have hn : hasN a s.n = true := hasN_iff.2 ⟨t, List.mem_of_find?_eq_some ht, by simpa using List.find?_some ht⟩
     have hnb := newB_snoc (a := a) hs
     rw [if_pos hn] at hnb
     rw [sgD]
     conv => whnf
     repeat' (first|((with_reducible refine Split.of_true ?_);conv=>whnf)|(with_reducible refine Split.neg ?_)|((with_reducible refine Split.eqz (fun _=>?_) (fun _=>?_))<;>conv=>whnf)|(with_reducible refine Split.and ?_)|((with_reducible refine Need.mk ?_ ?_);(first|omega|rfl|decide|(refine ⟨?_,?_⟩<;>simp<;>omega)|(simp;omega));conv=>whnf)|((with_reducible refine Wr.inr ?_ ?_);(first|omega|(simp;omega));conv=>whnf)|fail)
     ·have hts : t = s := by
       cases t; cases s; simp_all
      subst hts
      have hmp1 := byN_same hju ((joined_find hbu hs).trans ht)
      have e1 : byN (a ++ newB a (b.take i)) = byN (a ++ newB a (b.take (i + 1))) := by rw [hnb]
      have hmp1 := hmp1.trans e1
      rw [sgD] at hmp1
      exact Again.au (i + 1) ⟨by omega, by rw [hst];simp⟩ (by omega) (by refine ⟨?_, ?_, rfl⟩<;>(repeat' (first|exact True.intro|exact rfl|(refine ⟨?_,?_⟩)|(intro h;cases h;done)|exact hmp1|fail));done)
     all_goals
      rw [if_pos (cfl_yes hs ht (by rintro rfl; simp_all))]
      rfl
    ·rw [mget_byN _ _ hju, joined_find hbu hs, Option.map_eq_none_iff] at hv
     have hn : hasN a s.n = false := hasN_no.2 fun t ht e => by
      have := List.find?_eq_none.1 hv t ht
      simp [e] at this
     have hst := cfl_snoc (a := a) hs
     rw [hv, hc, Bool.false_or] at hst
     have hnb := newB_snoc (a := a) hs
     rw [if_neg (by simp [hn])] at hnb
     have hmp1 := byN_new (s := s) hju (by rw [joined_find hbu hs, hv])
     rw [sgD, List.append_assoc, ← hnb] at hmp1
     conv => whnf
     repeat' (first|((with_reducible refine Split.of_false ?_);conv=>whnf)|((with_reducible refine Need.mk ?_ ?_);(first|omega|rfl|decide|(refine ⟨?_,?_⟩<;>simp<;>omega)|(simp;omega));conv=>whnf)|((with_reducible refine Wr.inr ?_ ?_);(first|omega|(simp;omega));conv=>whnf)|fail)
     exact Again.au (i + 1) ⟨by omega, hst⟩ (by omega) (by refine ⟨?_, ?_, rfl⟩<;>(repeat' (first|exact True.intro|exact rfl|(refine ⟨?_,?_⟩)|(intro h;cases h;done)|exact hmp1|fail));done)
   all_goals
    have ei : i = b.length := by omega
    subst ei
    rw [List.take_length] at hc hju
    rw [hc, if_neg (by decide)]
    have hnl := newB_len a b
    have hjl : (a ++ newB a b).length = a.length + (newB a b).length := List.length_append
    have hbl : (byN (a ++ newB a (b.take b.length))).length = (a ++ newB a b).length := by rw [List.take_length]; exact List.length_map _
   ·rw [if_pos (by omega)]; rfl
   ·have h4 := (xv_Values 3 40 (.int .i64) (byN (a ++ newB a (b.take b.length)))).rn [(1001, 29), (1, 58)] rfl
    have h5 := (xv_SortedVals cfNum swoNum 29 (a ++ newB a b) (noTwo_nodup hju) (fun x hx y hy k1 k2 => noTwo_eq hju x hx y hy (by rw [cfNum_lt] at k1 k2; omega)) (fun x _ y _ => ev_Mrg1 x y) (by omega)
     3 40 (.int .i64) (byN (a ++ newB a (b.take b.length))) (by rw [List.take_length, byN, List.map_map]; rfl) false).rn [(1000, 58), (1001, 29), (9, 59)] rfl
    have h5 := EvX.order h5 (hs' := [(29, .map 3 40 (.int .i64) (byN (a ++ newB a (b.take b.length)))), (58, .var [.mp 29] false)]) (fun _ => lk_swap rfl) (fun _ => rfl)
    rw [if_neg (by omega)]
    have hsl := sortL_len cfNum (a ++ newB a b)
    conv => whnf
    repeat' (first|((with_reducible refine AltK.r ?_);(conv=>whnf);(first|(refine CallX.mk _ _ (h4) rfl ?_)|(refine CallX.mk _ _ (h5) rfl ?_));conv=>whnf)|fail)
    rfl
  ·rw [if_pos c1]
   rw [c0] at h1
   refine ev_of_awp tysOk mixed (fn := Tryz.f9) Tryz.func9 rfl rfl rfl ?_
   conv => whnf
   repeat' (first|((refine LoopK.unr 3 ?_);conv=>whnf)|((refine PickE.mk _ rfl ?_);conv=>whnf)|((with_reducible refine Split.is_false ?_ ?_);decide;conv=>whnf)|((with_reducible refine Split.nez (fun _=>?_) (fun _=>?_))<;>conv=>whnf)|((with_reducible refine Split.dec (fun _=>?_) (fun _=>?_))<;>conv=>whnf)|((with_reducible refine Need.mk ?_ ?_);(first|omega|rfl|decide|(refine ⟨?_,?_⟩<;>simp<;>omega)|(simp;omega));conv=>whnf)|((with_reducible refine Wr.inr ?_ ?_);(first|omega|(simp;omega));conv=>whnf)|((with_reducible refine AltK.l ?_);(conv=>whnf);(first|(refine CallK.mk _ (h1) ?_)|(refine CallK.mk _ (h2) ?_));conv=>whnf)|(exfalso;first|omega|contradiction)|fail)
   all_goals simp_all [retOf, sgsE, iD]
 ·rw [mergeRes, if_pos c0]
  refine ev_of_awp tysOk mixed (fn := Tryz.f9) Tryz.func9 rfl rfl rfl ?_
  conv => whnf
  repeat' (first|((refine LoopK.unr 3 ?_);conv=>whnf)|((refine PickE.mk _ rfl ?_);conv=>whnf)|((with_reducible refine Split.nez (fun _=>?_) (fun _=>?_))<;>conv=>whnf)|((with_reducible refine Split.dec (fun _=>?_) (fun _=>?_))<;>conv=>whnf)|((with_reducible refine Need.mk ?_ ?_);(first|omega|rfl|decide|(refine ⟨?_,?_⟩<;>simp<;>omega)|(simp;omega));conv=>whnf)|((with_reducible refine Wr.inr ?_ ?_);(first|omega|(simp;omega));conv=>whnf)|((with_reducible refine AltK.l ?_);(conv=>whnf);(first|(refine CallK.mk _ (h1) ?_));conv=>whnf)|(exfalso;first|omega|contradiction)|fail)
  all_goals simp_all [retOf, sgsE, iD]
end Go.Proofs.Tryz
end

section
namespace Go.Proofs.Tryz
open Go Go.Vm Go.Sort
set_option maxRecDepth 20000
set_option maxHeartbeats 4000000
def ixJ (x : Int) (l : List Int) : Int := match l.findIdx? (fun c => c == x) with
 | some i => (i : Int)
 | none => -1
theorem any_ixJ (x : Int) (l : List Int) : (l.any fun c => c == x) = decide (0 ≤ ixJ x l) := by
 rw [← List.findIdx?_isSome, ixJ]
 cases l.findIdx? (fun c => c == x) <;> simp
theorem ev_IndexJ (l : List Int) (x : Int) (hn : l.length ≤ 1000000) : Ev Tryz.prog 51 [.sl 1 (l.map iD), iD x] (iD (ixJ x l)) := by
 have hlen : (l.map iD).length = l.length := List.length_map _
 refine ev_of_awp tysOk mixed (fn := Tryz.f51) Tryz.func51 rfl rfl rfl ?_
 conv => whnf
 skip
 refine LoopK.o2 (fun i : Nat => i ≤ l.length ∧ ∀ g ∈ l.take i, (g == x) = false) (fun i => [(8, .d (.int .i64 i))]) (fun _ => []) (fun i => l.length - i) 0 (by simp) (by refine ⟨?_, ?_, rfl⟩<;>(repeat' (first|exact True.intro|exact rfl|(refine ⟨?_,?_⟩)|fail));done) ?_
 rintro i ⟨hi, hp⟩
 by_cases hil : i < l.length
 ·obtain ⟨g, hg⟩ := some_of_lt hil
  conv => whnf
  repeat' (first|((refine PickE.map i hg (by omega) ?_);conv=>whnf)|((with_reducible refine Split.eqz (fun _=>?_) (fun _=>?_))<;>conv=>whnf)|((with_reducible refine Split.dec (fun _=>?_) (fun _=>?_))<;>conv=>whnf)|((with_reducible refine Need.mk ?_ ?_);(first|omega|rfl|decide|(refine ⟨?_,?_⟩<;>simp<;>omega)|(simp;omega));conv=>whnf)|((with_reducible refine Wr.inr ?_ ?_);(first|omega|(simp;omega));conv=>whnf)|(exfalso;first|omega|contradiction)|fail)
  ·have e : l.findIdx? (fun c => c == x) = some i := by
    rw [List.findIdx?_eq_some_iff_getElem]
    refine ⟨by omega, by rw [(List.getElem?_eq_some_iff.1 hg).2]; simp; omega, fun j hj => ?_⟩
    have := hp l[j] (List.mem_take_iff_getElem.2 ⟨j, by omega, rfl⟩)
    rw [this]; decide
   rw [ixJ, e]; rfl
  ·refine Again.au (i + 1) ⟨by omega, fun z hz => ?_⟩ (by omega) (by refine ⟨?_, ?_, rfl⟩<;>(repeat' (first|exact True.intro|exact rfl|(refine ⟨?_,?_⟩)|fail));done)
   rw [take_snoc hg] at hz
   rcases List.mem_append.1 hz with hz | hz
   ·exact hp z hz
   ·rw [List.mem_singleton.1 hz]; simp; omega
 ·have e : l.findIdx? (fun c => c == x) = none := by
   rw [List.findIdx?_eq_none_iff]
   intro z hz
   rw [← List.take_of_length_le (show l.length ≤ i by omega)] at hz
   exact hp z hz
  rw [ixJ, e]
  conv => whnf
  repeat' (first|((with_reducible refine Split.dec (fun _=>?_) (fun _=>?_))<;>conv=>whnf)|((with_reducible refine Need.mk ?_ ?_);(first|omega|rfl|decide|(refine ⟨?_,?_⟩<;>simp<;>omega)|(simp;omega));conv=>whnf)|(exfalso;first|omega|contradiction)|fail)
  rfl
theorem ev_ContJ (l : List Int) (x : Int) (hn : l.length ≤ 1000000) : Ev Tryz.prog 25 [.sl 1 (l.map iD), iD x] (.bool (l.any fun c => c == x)) := by
 have h := ev_IndexJ l x hn
 rw [any_ixJ]
 generalize ixJ x l = i at *
 refine ev_of_awp tysOk mixed (fn := Tryz.f25) Tryz.func25 rfl rfl rfl ?_
 conv => whnf
 repeat' (first|((with_reducible refine AltK.l ?_);(conv=>whnf);(first|(refine CallK.mk _ (h) ?_));conv=>whnf)|fail)
 rfl
def inK (k : List Int) (s : Sg) : Bool := k.any fun c => c == s.n
theorem ev_Wo1 (s : Sg) (k : List Int) (hk : k.length ≤ 1000) : Ev Tryz.prog 24 [sgD s, .ref [.sl 1 (k.map iD)] 0] (.bool (inK k s)) := by
 have h := ev_ContJ k s.n (by omega)
 refine ev_of_awp tysOk mixed (fn := Tryz.f24) Tryz.func24 rfl rfl rfl ?_
 conv => whnf
 repeat' (first|((with_reducible refine AltK.l ?_);(conv=>whnf);(first|(refine CallK.mk _ (h) ?_));conv=>whnf)|fail)
 rfl
def woRes (l : List Sg) (k : List Int) : List Sg × Int := if chkErr sgB Sg.n l ≠ 0 then ([], chkErr sgB Sg.n l) else if (k.any fun n => !hasN l n) = true then ([], 6) else (l.filter fun s => !inK k s, 0)
theorem any_snoc {α : Type} {p : α → Bool} {l : List α} {i : Nat} {x : α} (h : l[i]? = some x) : (l.take (i + 1)).any p = ((l.take i).any p || p x) := by
 rw [take_snoc h, List.any_append]; simp
theorem any_at {α : Type} {p : α → Bool} {l : List α} {i : Nat} {x : α} (h : l[i]? = some x) (hp : p x = true) : l.any p = true := List.any_eq_true.2 ⟨x, List.mem_of_getElem? h, hp⟩
theorem ev_Without (l : List Sg) (k : List Int) (hk : k.length ≤ 1000) : Ev Tryz.prog 7 [.sl 5 (l.map sgD), .sl 1 (k.map iD)] (sgsE (woRes l k)) := by
 have hlen : (l.map sgD).length = l.length := List.length_map _
 have hlk : (k.map iD).length = k.length := List.length_map _
 have h1 := ev_CheckS l
 by_cases c0 : chkErr sgB Sg.n l = 0
 ·rw [woRes, if_neg (by simpa using c0)]
  rw [c0] at h1
  obtain ⟨hl5, hall, hu⟩ := chk_zero c0
  have h2 := EvX.newM (xs := [.sl 5 (l.map sgD)]) (xv_byNumber l hu (by omega)) 18
  refine ev_of_awp tysOk mixed (fn := Tryz.f7) Tryz.func7 rfl rfl rfl ?_
  conv => whnf
  repeat' (first|((with_reducible refine Split.is_false ?_ ?_);decide;conv=>whnf)|((with_reducible refine AltK.r ?_);(conv=>whnf);(first|(refine CallX.mk _ _ (h2) rfl ?_));conv=>whnf)|((with_reducible refine AltK.l ?_);(conv=>whnf);(first|(refine CallK.mk _ (h1) ?_));conv=>whnf)|fail)
  refine LoopK.o2 (fun i : Nat => i ≤ k.length ∧ ((k.take i).any fun n => !hasN l n) = false) (fun i => [(21, .d (.int .i64 i))]) (fun _ => []) (fun i => k.length - i) 0 ⟨by simp, rfl⟩ (by refine ⟨?_, ?_, rfl⟩<;>(repeat' (first|exact True.intro|exact rfl|(refine ⟨?_,?_⟩)|(intro h;cases h;done)|fail));done) ?_
  rintro i ⟨hi, hc⟩
  have hnx : (i : Int) < k.length → ∃ m, k[i]? = some m := fun h => some_of_lt (by omega)
  conv => whnf
  repeat' (first|((with_reducible refine Split.dec (fun _=>?_) (fun _=>?_))<;>conv=>whnf)|((with_reducible refine Need.mk ?_ ?_);(first|omega|rfl|decide|(refine ⟨?_,?_⟩<;>simp<;>omega)|(simp;omega));conv=>whnf)|fail)
  ·obtain ⟨n, hn⟩ := hnx (by omega)
   have hst := any_snoc (p := fun n => !hasN l n) hn
   rw [hc, Bool.false_or] at hst
   conv => whnf
   repeat' (first|((refine PickE.map i hn (by omega) ?_);conv=>whnf)|((with_reducible refine Need.mk ?_ ?_);(first|omega|rfl|decide|(refine ⟨?_,?_⟩<;>simp<;>omega)|(simp;omega));conv=>whnf)|fail)
   refine LookK.mk (fun v hv => ?_) (fun hv => ?_)
   ·rw [mget_byN _ _ hu, Option.map_eq_some_iff] at hv
    obtain ⟨t, ht, rfl⟩ := hv
    have hh : hasN l n = true := hasN_iff.2 ⟨t, List.mem_of_find?_eq_some ht, by simpa using List.find?_some ht⟩
    conv => whnf
    repeat' (first|((with_reducible refine Split.of_true ?_);conv=>whnf)|(with_reducible refine Split.neg ?_)|((with_reducible refine Need.mk ?_ ?_);(first|omega|rfl|decide|(refine ⟨?_,?_⟩<;>simp<;>omega)|(simp;omega));conv=>whnf)|((with_reducible refine Wr.inr ?_ ?_);(first|omega|(simp;omega));conv=>whnf)|fail)
    exact Again.au (i + 1) ⟨by omega, by rw [hst, hh];rfl⟩ (by omega) (by refine ⟨?_, ?_, rfl⟩<;>(repeat' (first|exact True.intro|exact rfl|(refine ⟨?_,?_⟩)|(intro h;cases h;done)|fail));done)
   ·rw [mget_byN _ _ hu, Option.map_eq_none_iff, find_any] at hv
    have hh : hasN l n = false := hv
    conv => whnf
    repeat' (first|((with_reducible refine Split.of_false ?_);conv=>whnf)|(with_reducible refine Split.neg ?_)|((with_reducible refine Need.mk ?_ ?_);(first|omega|rfl|decide|(refine ⟨?_,?_⟩<;>simp<;>omega)|(simp;omega));conv=>whnf)|fail)
    rw [if_pos (any_at hn (by rw [hh]; rfl))]
    rfl
  ·have ei : i = k.length := by omega
   subst ei
   rw [List.take_length] at hc
   rw [hc, if_neg (by decide)]
   by_cases hn : l = []
   ·subst hn
    have h4 : Ev Tryz.prog 22 [.sl 5 [], .fn 24 [.ref [.sl 1 (k.map iD)] 0]] (.sl 5 []) := by
     have hi := ev_IndexS [] 24 [.ref [.sl 1 (k.map iD)] 0] (fun _ => true) (by simp) (fun g hg => (by cases hg))
     refine ev_of_awp tysOk mixed (fn := Tryz.f22) Tryz.func22 rfl rfl rfl ?_
     conv => whnf
     repeat' (first|((with_reducible refine Split.is_true ?_ ?_);decide;conv=>whnf)|((with_reducible refine AltK.l ?_);(conv=>whnf);(first|(refine CallK.mk _ (hi) ?_));conv=>whnf)|fail)
     rfl
    conv => whnf
    repeat' (first|((with_reducible refine AltK.l ?_);(conv=>whnf);(first|(refine CallK.mk _ (ev_cloneS [] (by simp)) ?_)|(refine CallK.mk _ (h4) ?_));conv=>whnf)|fail)
    rfl
   ·have h3 := EvX.new1 (xs := [.sl 5 (l.map sgD)]) (xv_cloneS l (by have := List.length_pos_iff.2 hn; omega)) 35
    have hq : ∀ g ∈ l, Ev Tryz.prog 24 ([sgD g] ++ [.ref [.sl 1 (k.map iD)] 0]) (.bool (inK k g)) := fun g _ => ev_Wo1 g k hk
    have hfl : (l.filter fun s => !inK k s).length ≤ l.length := List.length_filter_le _ _
    cases h0 : l.findIdx? fun g => inK k g with
    | none =>
     have e : (l.filter fun s => !inK k s) = l := by
      rw [List.filter_eq_self]
      intro g hg
      have := List.findIdx?_eq_none_iff.1 h0 g hg
      rw [this]; rfl
     have h4 := EvX.at1o (xs := [.fn 24 [.ref [.sl 1 (k.map iD)] 0]]) (xv_delS0 l _ _ _ (by omega) hq h0) 35
     have h4 := EvX.cap 3 [.sl 1 (k.map iD)] false (xs := [.own 35 5 (l.map sgD).length, .fnv 24 [.box 3]]) h4 rfl
     rw [e]
     conv => whnf
     repeat' (first|((with_reducible refine AltK.r ?_);(conv=>whnf);(first|(refine CallX.mk _ _ (h3) rfl ?_)|(refine CallX.mk _ _ (h4) rfl ?_));conv=>whnf)|fail)
     rfl
    | some i0 =>
     have h4 := EvX.turn1 (xs := [.fn 24 [.ref [.sl 1 (k.map iD)] 0]]) (xv_delS l _ _ _ (by omega) hq h0) 35 37 rfl
     have h4 := EvX.cap 3 [.sl 1 (k.map iD)] false (xs := [.own 35 5 (l.map sgD).length, .fnv 24 [.box 3]]) h4 rfl
     conv => whnf
     repeat' (first|((with_reducible refine AltK.r ?_);(conv=>whnf);(first|(refine CallX.mk _ _ (h3) rfl ?_)|(refine CallX.mk _ _ (h4) rfl ?_));conv=>whnf)|fail)
     rfl
 ·rw [woRes, if_pos c0]
  refine ev_of_awp tysOk mixed (fn := Tryz.f7) Tryz.func7 rfl rfl rfl ?_
  conv => whnf
  repeat' (first|((with_reducible refine Split.nez (fun _=>?_) (fun _=>?_))<;>conv=>whnf)|((with_reducible refine AltK.l ?_);(conv=>whnf);(first|(refine CallK.mk _ (h1) ?_));conv=>whnf)|(exfalso;first|omega|contradiction)|fail)
  all_goals simp_all [retOf, sgsE, iD]
end Go.Proofs.Tryz
end

section
namespace Go.Proofs.Tryz
open Go Go.Vm
def cSg : List Cs := [.int .i64, .int .i64, .int .i64, .int .i64, .int .i64]
theorem sg_of {d : D} (h : TyV (true, cSg) d) : ∃ r, d = sgD r := by
 obtain ⟨ds, rfl, hl, hc⟩ := agg_of h
 match ds, hl with
 | [a, b, c, e, f], _ =>
  obtain ⟨x0, rfl, -⟩ := int_of (hc 0 _ a rfl rfl)
  obtain ⟨x1, rfl, -⟩ := int_of (hc 1 _ b rfl rfl)
  obtain ⟨x2, rfl, -⟩ := int_of (hc 2 _ c rfl rfl)
  obtain ⟨x3, rfl, -⟩ := int_of (hc 3 _ e rfl rfl)
  obtain ⟨x4, rfl, -⟩ := int_of (hc 4 _ f rfl rfl)
  exact ⟨⟨x0, x1, x2, x3, x4⟩, rfl⟩
theorem sgs_of {d : D} (h : Ty (.sl true cSg) d) : ∃ l : List Sg, d = .sl 5 (l.map sgD) := by
 obtain ⟨es, rfl, he, -⟩ := sl_of h
 obtain ⟨l, rfl⟩ := map_of (fun d hd => sg_of hd) he
 exact ⟨l, rfl⟩
theorem ints_of {d : D} (h : Ty (.sl false [.int .i64]) d) : ∃ l : List Int, d = .sl 1 (l.map iD) := by
 obtain ⟨es, rfl, he, -⟩ := sl_of h
 obtain ⟨l, rfl⟩ := map_of (f := iD) (fun d hd => by
  obtain ⟨n, rfl, -⟩ := int_of (one_of hd)
  exact ⟨n, rfl⟩) he
 exact ⟨l, rfl⟩
end Go.Proofs.Tryz
end

section
namespace Go.Proofs.Tryz
open Go Go.Vm Go.Sort
set_option maxRecDepth 20000
set_option maxHeartbeats 4000000
def longB (n : Nat) : Bool := (decide (25 < n) && decide (n ≤ 500)) || decide (600 < n)
theorem ev_long (l : List Sg) : Ev Tryz.prog 5 [.sl 5 (l.map sgD)] (.bool (longB l.length)) := by
 have hlen : (l.map sgD).length = l.length := List.length_map _
 refine ev_of_awp tysOk mixed (fn := Tryz.f5) Tryz.func5 rfl rfl rfl ?_
 conv => whnf
 repeat' (first|((with_reducible refine Split.of_false ?_);conv=>whnf)|((with_reducible refine Split.dec (fun _=>?_) (fun _=>?_))<;>conv=>whnf)|fail)
 all_goals
  have e : longB l.length = true ∨ longB l.length = false := by cases longB l.length <;> simp
  rcases e with e | e <;> rw [e] <;> simp [retOf, longB] at e ⊢ <;> omega
end Go.Proofs.Tryz
end
