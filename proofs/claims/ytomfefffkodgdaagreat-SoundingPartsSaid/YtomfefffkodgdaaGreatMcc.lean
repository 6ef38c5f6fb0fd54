/- Texts SdD SdE LyS SdG LyG LyI SdI SdJ SdP SdK SeL, joined; what is not needed is left out. -/
import Derived.Test.YtomfefffkodgdaaGreatMgH
import Derived.Test.YtomfefffkodgdaaGreatProg
import Derived.Test.YtomfefffkodgdaaGreatMgI
import Derived.Shelf.SlLaysF0
import Derived.Shelf.Lays
import Derived.Test.YtomfefffkodgdaaGreatMgJ
import Derived.Test.YtomfefffkodgdaaGreatMcb
section
namespace Go.Proofs.Tryz
open Go Go.Vm
set_option maxRecDepth 20000
set_option maxHeartbeats 2000000
theorem chkGo_zero {α : Type} {v : α → Bool} {num : α → Int} : ∀ (r o : List α), chkGo v num o r = 0 → (∀ x ∈ r, v x = true ∧ ∀ y ∈ o, num y ≠ num x) ∧ r.Pairwise fun a b => num a ≠ num b
 | [], _, _ => ⟨(fun x h => (by cases h)), .nil⟩
 | x :: r, o, h => by
  rw [chkGo] at h
  split at h
  ·cases h
  ·rename_i h1
   split at h
   ·cases h
   ·rename_i h2
    obtain ⟨k1, k2⟩ := chkGo_zero r (o ++ [x]) h
    refine ⟨fun y hy => ?_, List.pairwise_cons.2 ⟨fun y hy => (k1 y hy).2 x (by simp), k2⟩⟩
    rcases List.mem_cons.1 hy with rfl | hy
    ·exact ⟨by simpa using h1, fun z hz he => h2 (List.any_eq_true.2 ⟨z, hz, by simp [he]⟩)⟩
    ·exact ⟨(k1 y hy).1, fun z hz => (k1 y hy).2 z (by simp [hz])⟩
theorem chk_zero {α : Type} {v : α → Bool} {num : α → Int} {l : List α} (h : chkErr v num l = 0) : l.length ≤ 500 ∧ (∀ x ∈ l, v x = true) ∧ l.Pairwise fun a b => num a ≠ num b := by
 unfold chkErr at h
 split at h
 ·cases h
 ·obtain ⟨a, b⟩ := chkGo_zero l [] h
  exact ⟨by omega, fun x hx => (a x hx).1, b⟩
theorem ev_Ints (a b : List Int) (ha : a.length ≤ 1000000) : Ev Tryz.prog 20 [.sl 1 (a.map iD), .sl 1 (b.map iD)] (.bool (decide (a = b))) := by
 have hla : (a.map iD).length = a.length := List.length_map _
 have hlb : (b.map iD).length = b.length := List.length_map _
 refine ev_of_awp tysOk mixed (fn := Tryz.f20) Tryz.func20 rfl rfl rfl ?_
 conv => whnf
 repeat' (first|((with_reducible first|refine Split.of_true ?_|refine Split.of_false ?_);conv=>whnf)|(with_reducible refine Split.neg ?_)|((with_reducible refine Split.is_true ?_ ?_);decide;conv=>whnf)|((with_reducible refine Split.is_false ?_ ?_);decide;conv=>whnf)|((with_reducible refine Split.nez (fun _=>?_) (fun _=>?_))<;>conv=>whnf)|((with_reducible refine Split.eqz (fun _=>?_) (fun _=>?_))<;>conv=>whnf)|(with_reducible refine Split.and ?_)|(with_reducible refine Split.or ?_)|((with_reducible refine Split.streq (fun _=>?_) (fun _=>?_))<;>conv=>whnf)|((with_reducible refine Split.dec (fun _=>?_) (fun _=>?_))<;>conv=>whnf)|((with_reducible refine Split.mk (fun _=>?_) (fun _=>?_))<;>conv=>whnf)|((with_reducible refine NilK.mk (fun _=>?_) ?_)<;>conv=>whnf)|((with_reducible refine AltK.l ?_);(conv=>whnf);(with_reducible refine Need.mk ?_ ?_);(first|omega|(refine ⟨?_,?_⟩<;>simp<;>omega)|(simp;omega));conv=>whnf)|((with_reducible refine Need.mk ?_ ?_);(first|omega|rfl|decide|(refine ⟨?_,?_⟩<;>simp<;>omega)|(simp;omega));conv=>whnf)|((with_reducible refine Wr.quo ?_ ?_ ?_ ?_);omega;omega;omega;conv=>whnf)|((with_reducible refine Wr.inr ?_ ?_);(first|omega|(simp;omega));conv=>whnf)|((with_reducible refine Wr.inu ?_ ?_);omega;conv=>whnf)|(exfalso;first|omega|contradiction)|fail)
 ·have : a ≠ b := by rintro rfl; omega
  simp [retOf, this]
 refine LoopK.o2 (fun i : Nat => i ≤ a.length ∧ a.take i = b.take i) (fun i => [(5, .d (.int .i64 i))]) (fun _ => []) (fun i => a.length - i) 0 (by simp) (by refine ⟨?_, ?_, rfl⟩<;>(repeat' (first|exact True.intro|exact rfl|(refine ⟨?_,?_⟩)|(intro h;cases h;done)|(intro h;exact h)|exact map_snoc|(refine own_congr ?_;simp;done)|(refine int_congr ?_;(first|omega|(simp;omega)))|(simp;done)|fail));done) ?_
 rintro i ⟨hi, hp⟩
 have hn : (i : Int) < a.length → ∃ m, a[i]? = some m := fun h => some_of_lt (by omega)
 have hn2 : (i : Int) < a.length → ∃ m, b[i]? = some m := fun h => some_of_lt (by omega)
 conv => whnf
 repeat' (first|((with_reducible first|refine Split.of_true ?_|refine Split.of_false ?_);conv=>whnf)|(with_reducible refine Split.neg ?_)|((with_reducible refine Split.is_true ?_ ?_);decide;conv=>whnf)|((with_reducible refine Split.is_false ?_ ?_);decide;conv=>whnf)|((with_reducible refine Split.nez (fun _=>?_) (fun _=>?_))<;>conv=>whnf)|((with_reducible refine Split.eqz (fun _=>?_) (fun _=>?_))<;>conv=>whnf)|(with_reducible refine Split.and ?_)|(with_reducible refine Split.or ?_)|((with_reducible refine Split.streq (fun _=>?_) (fun _=>?_))<;>conv=>whnf)|((with_reducible refine Split.dec (fun _=>?_) (fun _=>?_))<;>conv=>whnf)|((with_reducible refine Split.mk (fun _=>?_) (fun _=>?_))<;>conv=>whnf)|((with_reducible refine NilK.mk (fun _=>?_) ?_)<;>conv=>whnf)|((with_reducible refine AltK.l ?_);(conv=>whnf);(with_reducible refine Need.mk ?_ ?_);(first|omega|(refine ⟨?_,?_⟩<;>simp<;>omega)|(simp;omega));conv=>whnf)|((with_reducible refine Need.mk ?_ ?_);(first|omega|rfl|decide|(refine ⟨?_,?_⟩<;>simp<;>omega)|(simp;omega));conv=>whnf)|((with_reducible refine Wr.quo ?_ ?_ ?_ ?_);omega;omega;omega;conv=>whnf)|((with_reducible refine Wr.inr ?_ ?_);(first|omega|(simp;omega));conv=>whnf)|((with_reducible refine Wr.inu ?_ ?_);omega;conv=>whnf)|(exfalso;first|omega|contradiction)|fail)
 ·obtain ⟨x, hx⟩ := hn (by omega)
  obtain ⟨y, hy⟩ := hn2 (by omega)
  conv => whnf
  repeat' (first|((refine PickE.map i hy (by omega) ?_);conv=>whnf)|((refine PickE.map i hx (by omega) ?_);conv=>whnf)|((with_reducible first|refine Split.of_true ?_|refine Split.of_false ?_);conv=>whnf)|(with_reducible refine Split.neg ?_)|((with_reducible refine Split.is_true ?_ ?_);decide;conv=>whnf)|((with_reducible refine Split.is_false ?_ ?_);decide;conv=>whnf)|((with_reducible refine Split.nez (fun _=>?_) (fun _=>?_))<;>conv=>whnf)|((with_reducible refine Split.eqz (fun _=>?_) (fun _=>?_))<;>conv=>whnf)|(with_reducible refine Split.and ?_)|(with_reducible refine Split.or ?_)|((with_reducible refine Split.streq (fun _=>?_) (fun _=>?_))<;>conv=>whnf)|((with_reducible refine Split.dec (fun _=>?_) (fun _=>?_))<;>conv=>whnf)|((with_reducible refine Split.mk (fun _=>?_) (fun _=>?_))<;>conv=>whnf)|((with_reducible refine NilK.mk (fun _=>?_) ?_)<;>conv=>whnf)|((with_reducible refine AltK.l ?_);(conv=>whnf);(with_reducible refine Need.mk ?_ ?_);(first|omega|(refine ⟨?_,?_⟩<;>simp<;>omega)|(simp;omega));conv=>whnf)|((with_reducible refine Need.mk ?_ ?_);(first|omega|rfl|decide|(refine ⟨?_,?_⟩<;>simp<;>omega)|(simp;omega));conv=>whnf)|((with_reducible refine Wr.quo ?_ ?_ ?_ ?_);omega;omega;omega;conv=>whnf)|((with_reducible refine Wr.inr ?_ ?_);(first|omega|(simp;omega));conv=>whnf)|((with_reducible refine Wr.inu ?_ ?_);omega;conv=>whnf)|(exfalso;first|omega|contradiction)|fail)
  ·have hxy : x ≠ y := by assumption
   have : a ≠ b := by rintro rfl; rw [hx] at hy; cases hy; exact hxy rfl
   simp [retOf, this]
  ·have hxy : x = y := by assumption
   refine Again.au (i + 1) ⟨by omega, ?_⟩ (by omega) (by refine ⟨?_, ?_, rfl⟩<;>(repeat' (first|exact True.intro|exact rfl|(refine ⟨?_,?_⟩)|(intro h;cases h;done)|(intro h;exact h)|exact map_snoc|(refine own_congr ?_;simp;done)|(refine int_congr ?_;(first|omega|(simp;omega)))|(simp;done)|fail));done)
   rw [take_snoc hx, take_snoc hy, hp, hxy]
 ·have : a = b := by
   rw [List.take_of_length_le (by omega), List.take_of_length_le (by omega)] at hp; exact hp
  simp [retOf, this]
end Go.Proofs.Tryz
end

section
namespace Go.Proofs.Tryz
open Go Go.Vm
set_option maxRecDepth 20000
set_option maxHeartbeats 2000000
def cmpI (x y : Int) : Int := if x < y then -1 else if y < x then 1 else 0
theorem ev_isNaN (x : Int) : Ev Tryz.prog 54 [iD x] (.bool false) := by
 refine ev_of_awp tysOk mixed (fn := Tryz.f54) Tryz.func54 rfl rfl rfl ?_
 conv => whnf
 repeat' (first|((with_reducible first|refine Split.of_true ?_|refine Split.of_false ?_);conv=>whnf)|(with_reducible refine Split.neg ?_)|((with_reducible refine Split.is_true ?_ ?_);decide;conv=>whnf)|((with_reducible refine Split.is_false ?_ ?_);decide;conv=>whnf)|((with_reducible refine Split.nez (fun _=>?_) (fun _=>?_))<;>conv=>whnf)|((with_reducible refine Split.eqz (fun _=>?_) (fun _=>?_))<;>conv=>whnf)|(with_reducible refine Split.and ?_)|(with_reducible refine Split.or ?_)|((with_reducible refine Split.streq (fun _=>?_) (fun _=>?_))<;>conv=>whnf)|((with_reducible refine Split.dec (fun _=>?_) (fun _=>?_))<;>conv=>whnf)|((with_reducible refine Split.mk (fun _=>?_) (fun _=>?_))<;>conv=>whnf)|((with_reducible refine NilK.mk (fun _=>?_) ?_)<;>conv=>whnf)|((with_reducible refine AltK.l ?_);(conv=>whnf);(with_reducible refine Need.mk ?_ ?_);(first|omega|(refine ⟨?_,?_⟩<;>simp<;>omega)|(simp;omega));conv=>whnf)|((with_reducible refine Need.mk ?_ ?_);(first|omega|rfl|decide|(refine ⟨?_,?_⟩<;>simp<;>omega)|(simp;omega));conv=>whnf)|((with_reducible refine Wr.quo ?_ ?_ ?_ ?_);omega;omega;omega;conv=>whnf)|((with_reducible refine Wr.inr ?_ ?_);(first|omega|(simp;omega));conv=>whnf)|((with_reducible refine Wr.inu ?_ ?_);omega;conv=>whnf)|(exfalso;first|omega|contradiction)|fail)
 all_goals simp_all [retOf]
theorem ev_Compare (x y : Int) : Ev Tryz.prog 30 [iD x, iD y] (iD (cmpI x y)) := by
 refine ev_of_awp tysOk mixed (fn := Tryz.f30) Tryz.func30 rfl rfl rfl ?_
 conv => whnf
 repeat' (first|((with_reducible first|refine Split.of_true ?_|refine Split.of_false ?_);conv=>whnf)|(with_reducible refine Split.neg ?_)|((with_reducible refine Split.is_true ?_ ?_);decide;conv=>whnf)|((with_reducible refine Split.is_false ?_ ?_);decide;conv=>whnf)|((with_reducible refine Split.nez (fun _=>?_) (fun _=>?_))<;>conv=>whnf)|((with_reducible refine Split.eqz (fun _=>?_) (fun _=>?_))<;>conv=>whnf)|(with_reducible refine Split.and ?_)|(with_reducible refine Split.or ?_)|((with_reducible refine Split.streq (fun _=>?_) (fun _=>?_))<;>conv=>whnf)|((with_reducible refine Split.dec (fun _=>?_) (fun _=>?_))<;>conv=>whnf)|((with_reducible refine Split.mk (fun _=>?_) (fun _=>?_))<;>conv=>whnf)|((with_reducible refine NilK.mk (fun _=>?_) ?_)<;>conv=>whnf)|((with_reducible refine AltK.l ?_);(conv=>whnf);(with_reducible refine Need.mk ?_ ?_);(first|omega|(refine ⟨?_,?_⟩<;>simp<;>omega)|(simp;omega));conv=>whnf)|((with_reducible refine Need.mk ?_ ?_);(first|omega|rfl|decide|(refine ⟨?_,?_⟩<;>simp<;>omega)|(simp;omega));conv=>whnf)|((with_reducible refine Wr.quo ?_ ?_ ?_ ?_);omega;omega;omega;conv=>whnf)|((with_reducible refine Wr.inr ?_ ?_);(first|omega|(simp;omega));conv=>whnf)|((with_reducible refine Wr.inu ?_ ?_);omega;conv=>whnf)|((with_reducible refine AltK.l ?_);(conv=>whnf);(first|(refine CallK.mk _ (ev_isNaN _) ?_));conv=>whnf)|(exfalso;first|omega|contradiction)|fail)
 all_goals simp_all [retOf, cmpI, iD]
 all_goals omega
def orI : List Int → Int
 | [] => 0
 | x :: r => if x = 0 then orI r else x
theorem orI_at {l : List Int} {i : Nat} {x : Int} (h : l[i]? = some x) : orI (l.drop i) = if x = 0 then orI (l.drop (i + 1)) else x := by rw [drop_of h, orI]
theorem ev_Or (l : List Int) (hb : l.length ≤ 1000000) : Ev Tryz.prog 44 [.sl 1 (l.map iD)] (iD (orI l)) := by
 have hlen : (l.map iD).length = l.length := List.length_map _
 refine ev_of_awp tysOk mixed (fn := Tryz.f44) Tryz.func44 rfl rfl rfl ?_
 conv => whnf
 repeat' (first|((with_reducible first|refine Split.of_true ?_|refine Split.of_false ?_);conv=>whnf)|(with_reducible refine Split.neg ?_)|((with_reducible refine Split.is_true ?_ ?_);decide;conv=>whnf)|((with_reducible refine Split.is_false ?_ ?_);decide;conv=>whnf)|((with_reducible refine Split.nez (fun _=>?_) (fun _=>?_))<;>conv=>whnf)|((with_reducible refine Split.eqz (fun _=>?_) (fun _=>?_))<;>conv=>whnf)|(with_reducible refine Split.and ?_)|(with_reducible refine Split.or ?_)|((with_reducible refine Split.streq (fun _=>?_) (fun _=>?_))<;>conv=>whnf)|((with_reducible refine Split.dec (fun _=>?_) (fun _=>?_))<;>conv=>whnf)|((with_reducible refine Split.mk (fun _=>?_) (fun _=>?_))<;>conv=>whnf)|((with_reducible refine NilK.mk (fun _=>?_) ?_)<;>conv=>whnf)|((with_reducible refine AltK.l ?_);(conv=>whnf);(with_reducible refine Need.mk ?_ ?_);(first|omega|(refine ⟨?_,?_⟩<;>simp<;>omega)|(simp;omega));conv=>whnf)|((with_reducible refine Need.mk ?_ ?_);(first|omega|rfl|decide|(refine ⟨?_,?_⟩<;>simp<;>omega)|(simp;omega));conv=>whnf)|((with_reducible refine Wr.quo ?_ ?_ ?_ ?_);omega;omega;omega;conv=>whnf)|((with_reducible refine Wr.inr ?_ ?_);(first|omega|(simp;omega));conv=>whnf)|((with_reducible refine Wr.inu ?_ ?_);omega;conv=>whnf)|(exfalso;first|omega|contradiction)|fail)
 refine LoopK.o2 (fun i : Nat => i ≤ l.length ∧ orI l = orI (l.drop i)) (fun i => [(8, .d (.int .i64 i))]) (fun _ => []) (fun i => l.length - i) 0 (by simp) (by refine ⟨?_, ?_, rfl⟩<;>(repeat' (first|exact True.intro|exact rfl|(refine ⟨?_,?_⟩)|(intro h;cases h;done)|(intro h;exact h)|exact map_snoc|(refine own_congr ?_;simp;done)|(refine int_congr ?_;(first|omega|(simp;omega)))|(simp;done)|fail));done) ?_
 rintro i ⟨hi, hp⟩
 have hn : (i : Int) < l.length → ∃ m, l[i]? = some m := fun h => some_of_lt (by omega)
 conv => whnf
 repeat' (first|((with_reducible first|refine Split.of_true ?_|refine Split.of_false ?_);conv=>whnf)|(with_reducible refine Split.neg ?_)|((with_reducible refine Split.is_true ?_ ?_);decide;conv=>whnf)|((with_reducible refine Split.is_false ?_ ?_);decide;conv=>whnf)|((with_reducible refine Split.nez (fun _=>?_) (fun _=>?_))<;>conv=>whnf)|((with_reducible refine Split.eqz (fun _=>?_) (fun _=>?_))<;>conv=>whnf)|(with_reducible refine Split.and ?_)|(with_reducible refine Split.or ?_)|((with_reducible refine Split.streq (fun _=>?_) (fun _=>?_))<;>conv=>whnf)|((with_reducible refine Split.dec (fun _=>?_) (fun _=>?_))<;>conv=>whnf)|((with_reducible refine Split.mk (fun _=>?_) (fun _=>?_))<;>conv=>whnf)|((with_reducible refine NilK.mk (fun _=>?_) ?_)<;>conv=>whnf)|((with_reducible refine AltK.l ?_);(conv=>whnf);(with_reducible refine Need.mk ?_ ?_);(first|omega|(refine ⟨?_,?_⟩<;>simp<;>omega)|(simp;omega));conv=>whnf)|((with_reducible refine Need.mk ?_ ?_);(first|omega|rfl|decide|(refine ⟨?_,?_⟩<;>simp<;>omega)|(simp;omega));conv=>whnf)|((with_reducible refine Wr.quo ?_ ?_ ?_ ?_);omega;omega;omega;conv=>whnf)|((with_reducible refine Wr.inr ?_ ?_);(first|omega|(simp;omega));conv=>whnf)|((with_reducible refine Wr.inu ?_ ?_);omega;conv=>whnf)|(exfalso;first|omega|contradiction)|fail)
 ·obtain ⟨x, hx⟩ := hn (by omega)
  have hk := hp.trans (orI_at hx)
  conv => whnf
  repeat' (first|((refine PickE.map i hx (by omega) ?_);conv=>whnf)|((with_reducible first|refine Split.of_true ?_|refine Split.of_false ?_);conv=>whnf)|(with_reducible refine Split.neg ?_)|((with_reducible refine Split.is_true ?_ ?_);decide;conv=>whnf)|((with_reducible refine Split.is_false ?_ ?_);decide;conv=>whnf)|((with_reducible refine Split.nez (fun _=>?_) (fun _=>?_))<;>conv=>whnf)|((with_reducible refine Split.eqz (fun _=>?_) (fun _=>?_))<;>conv=>whnf)|(with_reducible refine Split.and ?_)|(with_reducible refine Split.or ?_)|((with_reducible refine Split.streq (fun _=>?_) (fun _=>?_))<;>conv=>whnf)|((with_reducible refine Split.dec (fun _=>?_) (fun _=>?_))<;>conv=>whnf)|((with_reducible refine Split.mk (fun _=>?_) (fun _=>?_))<;>conv=>whnf)|((with_reducible refine NilK.mk (fun _=>?_) ?_)<;>conv=>whnf)|((with_reducible refine AltK.l ?_);(conv=>whnf);(with_reducible refine Need.mk ?_ ?_);(first|omega|(refine ⟨?_,?_⟩<;>simp<;>omega)|(simp;omega));conv=>whnf)|((with_reducible refine Need.mk ?_ ?_);(first|omega|rfl|decide|(refine ⟨?_,?_⟩<;>simp<;>omega)|(simp;omega));conv=>whnf)|((with_reducible refine Wr.quo ?_ ?_ ?_ ?_);omega;omega;omega;conv=>whnf)|((with_reducible refine Wr.inr ?_ ?_);(first|omega|(simp;omega));conv=>whnf)|((with_reducible refine Wr.inu ?_ ?_);omega;conv=>whnf)|(exfalso;first|omega|contradiction)|fail)
  ·rw [hk, if_neg (by assumption)]; rfl
  ·rw [if_pos (by assumption)] at hk
   exact Again.au (i + 1) ⟨by omega, hk⟩ (by omega) (by refine ⟨?_, ?_, rfl⟩<;>(repeat' (first|exact True.intro|exact rfl|(refine ⟨?_,?_⟩)|(intro h;cases h;done)|(intro h;exact h)|exact map_snoc|(refine own_congr ?_;simp;done)|(refine int_congr ?_;(first|omega|(simp;omega)))|(simp;done)|fail));done)
 ·rw [hp, List.drop_eq_nil_of_le (by omega)]; rfl
def cfThin (a b : Sg) : Int := orI [cmpI b.hi a.hi, cmpI a.x b.x, cmpI a.y b.y, cmpI a.n b.n]
theorem ev_Thin1 (a b : Sg) : Ev Tryz.prog 43 [sgD a, sgD b] (iD (cfThin a b)) := by
 have h := ev_Or [cmpI b.hi a.hi, cmpI a.x b.x, cmpI a.y b.y, cmpI a.n b.n] (by simp)
 refine ev_of_awp tysOk mixed (fn := Tryz.f43) Tryz.func43 rfl rfl rfl ?_
 conv => whnf
 repeat' (first|((with_reducible first|refine Split.of_true ?_|refine Split.of_false ?_);conv=>whnf)|(with_reducible refine Split.neg ?_)|((with_reducible refine Split.is_true ?_ ?_);decide;conv=>whnf)|((with_reducible refine Split.is_false ?_ ?_);decide;conv=>whnf)|((with_reducible refine Split.nez (fun _=>?_) (fun _=>?_))<;>conv=>whnf)|((with_reducible refine Split.eqz (fun _=>?_) (fun _=>?_))<;>conv=>whnf)|(with_reducible refine Split.and ?_)|(with_reducible refine Split.or ?_)|((with_reducible refine Split.streq (fun _=>?_) (fun _=>?_))<;>conv=>whnf)|((with_reducible refine Split.dec (fun _=>?_) (fun _=>?_))<;>conv=>whnf)|((with_reducible refine Split.mk (fun _=>?_) (fun _=>?_))<;>conv=>whnf)|((with_reducible refine NilK.mk (fun _=>?_) ?_)<;>conv=>whnf)|((with_reducible refine AltK.l ?_);(conv=>whnf);(with_reducible refine Need.mk ?_ ?_);(first|omega|(refine ⟨?_,?_⟩<;>simp<;>omega)|(simp;omega));conv=>whnf)|((with_reducible refine Need.mk ?_ ?_);(first|omega|rfl|decide|(refine ⟨?_,?_⟩<;>simp<;>omega)|(simp;omega));conv=>whnf)|((with_reducible refine Wr.quo ?_ ?_ ?_ ?_);omega;omega;omega;conv=>whnf)|((with_reducible refine Wr.inr ?_ ?_);(first|omega|(simp;omega));conv=>whnf)|((with_reducible refine Wr.inu ?_ ?_);omega;conv=>whnf)|((with_reducible refine AltK.l ?_);(conv=>whnf);(first|(refine CallK.mk _ (ev_Compare _ _) ?_)|(refine CallK.mk _ (h) ?_));conv=>whnf)|(exfalso;first|omega|contradiction)|fail)
 rfl
end Go.Proofs.Tryz
end

section
/- A library function of the seat, laid (written by lay.sh). -/
open Go Go.Shelf
namespace Go.Proofs
def ly_LyS_ren : Shelf.Ren := ⟨fun | 6 => 42 | 15 => 61 | 14 => 60 | 28 => 83 | 29 => 84 | 20 => 75 | 21 => 76 | 22 => 77 | 23 => 78 | 24 => 79 | 25 => 80 | 26 => 81 | 27 => 82 | 46 => 105 | 47 => 106 | 48 => 107 | 49 => 108 | 50 => 109 | 57 => 118 | n => n, fun | 22 => 22 | 24 => 40 | 25 => 76 | 3 => 3 | 39 => 106 | 0 => 0 | 53 => 127 | 55 => 129 | 4 => 4 | 46 => 121 | 45 => 120 | 50 => 115 | 5 => 5 | 9 => 9 | 66 => 145 | 70 => 149 | 76 => 157 | 77 => 158 | n => n, fun | n => n⟩
theorem ly_LyS : Go.Proofs.SlLaysF0.n6 Tryz.prog ly_LyS_ren where
 mixed := by kernel_rfl
 f6 := ⟨ "slices.SortFunc[[]draghead/api.Sounding,draghead/api.Sounding]", by decide, Tryz.func42.trans (congrArg some (by kernel_rfl))⟩
 f14 := ⟨ "slices.pdqsortCmpFunc[draghead/api.Sounding]", by decide, Tryz.func60.trans (congrArg some (by kernel_rfl))⟩
 f15 := Tryz.func61.trans (congrArg some (by kernel_rfl))
 f20 := ⟨ "slices.insertionSortCmpFunc[draghead/api.Sounding]", by decide, Tryz.func75.trans (congrArg some (by kernel_rfl))⟩
 f21 := ⟨ "slices.heapSortCmpFunc[draghead/api.Sounding]", by decide, Tryz.func76.trans (congrArg some (by kernel_rfl))⟩
 f22 := ⟨ "slices.breakPatternsCmpFunc[draghead/api.Sounding]", by decide, Tryz.func77.trans (congrArg some (by kernel_rfl))⟩
 f23 := ⟨ "slices.choosePivotCmpFunc[draghead/api.Sounding]", by decide, Tryz.func78.trans (congrArg some (by kernel_rfl))⟩
 f24 := ⟨ "slices.reverseRangeCmpFunc[draghead/api.Sounding]", by decide, Tryz.func79.trans (congrArg some (by kernel_rfl))⟩
 f25 := ⟨ "slices.partialInsertionSortCmpFunc[draghead/api.Sounding]", by decide, Tryz.func80.trans (congrArg some (by kernel_rfl))⟩
 f26 := ⟨ "slices.partitionEqualCmpFunc[draghead/api.Sounding]", by decide, Tryz.func81.trans (congrArg some (by kernel_rfl))⟩
 f27 := ⟨ "slices.partitionCmpFunc[draghead/api.Sounding]", by decide, Tryz.func82.trans (congrArg some (by kernel_rfl))⟩
 f28 := Tryz.func83.trans (congrArg some (by kernel_rfl))
 f29 := Tryz.func84.trans (congrArg some (by kernel_rfl))
 f46 := ⟨ "slices.siftDownCmpFunc[draghead/api.Sounding]", by decide, Tryz.func105.trans (congrArg some (by kernel_rfl))⟩
 f47 := Tryz.func106.trans (congrArg some (by kernel_rfl))
 f48 := Tryz.func107.trans (congrArg some (by kernel_rfl))
 f49 := ⟨ "slices.medianAdjacentCmpFunc[draghead/api.Sounding]", by decide, Tryz.func108.trans (congrArg some (by kernel_rfl))⟩
 f50 := ⟨ "slices.medianCmpFunc[draghead/api.Sounding]", by decide, Tryz.func109.trans (congrArg some (by kernel_rfl))⟩
 f57 := ⟨ "slices.order2CmpFunc[draghead/api.Sounding]", by decide, Tryz.func118.trans (congrArg some (by kernel_rfl))⟩
 t0 := Tryz.underlying0
 a0 := Tryz.isAgg0
 z0 := Tryz.sizeOf0
 v0 := Tryz.zeroValue0
 t3 := Tryz.underlying3
 a3 := Tryz.isAgg3
 z3 := Tryz.sizeOf3
 v3 := Tryz.zeroValue3
 t4 := Tryz.underlying4
 a4 := Tryz.isAgg4
 z4 := Tryz.sizeOf4
 v4 := Tryz.zeroValue4
 t5 := Tryz.underlying5
 a5 := Tryz.isAgg5
 z5 := Tryz.sizeOf5
 v5 := Tryz.zeroValue5
 t9 := Tryz.underlying9
 a9 := Tryz.isAgg9
 z9 := Tryz.sizeOf9
 v9 := Tryz.zeroValue9
 t22 := Tryz.underlying22
 a22 := Tryz.isAgg22
 z22 := Tryz.sizeOf22
 v22 := Tryz.zeroValue22
 t25 := Tryz.underlying76
 a25 := Tryz.isAgg76
 z25 := Tryz.sizeOf76
 v25 := Tryz.zeroValue76
 t39 := Tryz.underlying106
 a39 := Tryz.isAgg106
 z39 := Tryz.sizeOf106
 v39 := Tryz.zeroValue106
 t45 := Tryz.underlying120
 a45 := Tryz.isAgg120
 z45 := Tryz.sizeOf120
 v45 := Tryz.zeroValue120
 t46 := Tryz.underlying121
 a46 := Tryz.isAgg121
 z46 := Tryz.sizeOf121
 v46 := Tryz.zeroValue121
 t50 := Tryz.underlying115
 a50 := Tryz.isAgg115
 z50 := Tryz.sizeOf115
 v50 := Tryz.zeroValue115
 t53 := Tryz.underlying127
 a53 := Tryz.isAgg127
 z53 := Tryz.sizeOf127
 v53 := Tryz.zeroValue127
 t55 := Tryz.underlying129
 a55 := Tryz.isAgg129
 z55 := Tryz.sizeOf129
 v55 := Tryz.zeroValue129
 t66 := Tryz.underlying145
 a66 := Tryz.isAgg145
 z66 := Tryz.sizeOf145
 v66 := Tryz.zeroValue145
 t70 := Tryz.underlying149
 a70 := Tryz.isAgg149
 z70 := Tryz.sizeOf149
 v70 := Tryz.zeroValue149
 t76 := Tryz.underlying157
 a76 := Tryz.isAgg157
 z76 := Tryz.sizeOf157
 v76 := Tryz.zeroValue157
 t77 := Tryz.underlying158
 a77 := Tryz.isAgg158
 z77 := Tryz.sizeOf158
 v77 := Tryz.zeroValue158
end Go.Proofs
end

section
open Go Go.Vm Go.Shelf
namespace Go.Proofs
namespace Tryz
set_option maxRecDepth 20000
set_option maxHeartbeats 2000000
theorem ev_cloneS (l : List Sg) (h : l.length ≤ 1000000) : Ev Tryz.prog 23 [.sl 5 (l.map sgD)] (.sl 5 (l.map sgD)) := by
 have hl : (l.map sgD).length = l.length := List.length_map _
 refine ev_of_awp tysOk mixed (fn := Tryz.f23) Tryz.func23 rfl rfl rfl ?_
 conv => whnf
 repeat' (first|((with_reducible refine Split.of_false ?_);conv=>whnf)|(with_reducible refine Split.neg ?_)|((with_reducible refine NilK.mk (fun _=>?_) ?_)<;>conv=>whnf)|((with_reducible refine Need.mk ?_ ?_);(first|omega|rfl|decide|(refine ⟨?_,?_⟩<;>simp<;>omega)|(simp;omega));conv=>whnf)|fail)
 ·simp_all [retOf]
 ·rfl
theorem xv_cloneS (l : List Sg) (h : 1 ≤ l.length ∧ l.length ≤ 1000000) : EvX Tryz.prog 23 [.d (.sl 5 (l.map sgD))] [] (.own 9 5 (l.map sgD).length) [(9, .row 40 5 (l.map sgD) false)] := by
 have hl : (l.map sgD).length = l.length := List.length_map _
 refine evx_of_awp tysOk mixed (fn := Tryz.f23) Tryz.func23 rfl rfl rfl ?_
 conv => whnf
 repeat' (first|((with_reducible refine Split.of_false ?_);conv=>whnf)|(with_reducible refine Split.neg ?_)|((with_reducible refine NilK.mk (fun _=>?_) ?_)<;>conv=>whnf)|((with_reducible refine Need.mk ?_ ?_);(first|omega|rfl|decide|(refine ⟨?_,?_⟩<;>simp<;>omega)|(simp;omega));conv=>whnf)|fail)
 ·rename_i hn; rw [hn] at hl; simp at hl; omega
 ·exact ⟨⟨[(9, some 7)], (by refine ⟨?_, ?_, rfl⟩<;>(repeat' (first|exact True.intro|exact rfl|(refine ⟨?_,?_⟩)|(intro h;cases h;done)|(refine own_congr ?_;simp;done)|fail));done)⟩, rfl⟩
theorem ev_IndexS (l : List Sg) (f : Nat) (caps : List D) (p : Sg → Bool) (hn : l.length ≤ 1000000) (hf : ∀ g ∈ l, Ev Tryz.prog f ([sgD g] ++ caps) (.bool (p g))) :
 Ev Tryz.prog 45 [.sl 5 (l.map sgD), .fn f caps] (.int .i64 (match l.findIdx? p with | some i => (i : Int) | none => -1)) := by
 have hlen : (l.map sgD).length = l.length := List.length_map _
 refine ev_of_awp tysOk mixed (fn := Tryz.f45) Tryz.func45 rfl rfl rfl ?_
 conv => whnf
 skip
 refine LoopK.o2 (fun i : Nat => i ≤ l.length ∧ ∀ g ∈ l.take i, p g = false) (fun i => [(8, .d (.int .i64 i))]) (fun _ => []) (fun i => l.length - i) 0 (by simp) (by refine ⟨?_, ?_, rfl⟩<;>(repeat' (first|exact True.intro|exact rfl|(refine ⟨?_,?_⟩)|fail));done) ?_
 rintro i ⟨hi, hp⟩
 have hn : (i : Int) < l.length → ∃ m, l[i]? = some m := fun h => some_of_lt (by omega)
 conv => whnf
 repeat' (first|((with_reducible refine Split.dec (fun _=>?_) (fun _=>?_))<;>conv=>whnf)|((with_reducible refine Need.mk ?_ ?_);(first|omega|rfl|decide|(refine ⟨?_,?_⟩<;>simp<;>omega)|(simp;omega));conv=>whnf)|fail)
 ·obtain ⟨g, hg⟩ := hn (by omega)
  have hf := hf g (List.mem_of_getElem? hg)
  conv => whnf
  repeat' (first|((refine PickE.map i hg (by omega) ?_);conv=>whnf)|fail)
  refine AltK.l ?_
  conv => whnf
  refine CallK.mk _ hf ?_
  conv => whnf
  refine Split.mk (fun hpg => ?_) (fun hpg => ?_)
  ·conv => whnf
   skip
   have e : l.findIdx? p = some i := by
    rw [List.findIdx?_eq_some_iff_getElem]
    refine ⟨by omega, by rw [(List.getElem?_eq_some_iff.1 hg).2]; exact hpg, fun j hj => ?_⟩
    have := hp l[j] (List.mem_take_iff_getElem.2 ⟨j, by omega, rfl⟩)
    rw [this]; decide
   rw [e]; rfl
  ·conv => whnf
   conv => whnf
   repeat' (first|((with_reducible refine Wr.inr ?_ ?_);(first|omega|(simp;omega));conv=>whnf)|fail)
   refine Again.au (i + 1) ⟨by omega, fun x hx => ?_⟩ (by omega) (by refine ⟨?_, ?_, rfl⟩<;>(repeat' (first|exact True.intro|exact rfl|(refine ⟨?_,?_⟩)|fail));done)
   rw [take_snoc hg] at hx
   rcases List.mem_append.1 hx with hx | hx
   ·exact hp x hx
   ·rw [List.mem_singleton.1 hx]; exact hpg
 ·have e : l.findIdx? p = none := by
   rw [List.findIdx?_eq_none_iff]
   intro x hx
   rw [← List.take_of_length_le (show l.length ≤ i by omega)] at hx
   exact hp x hx
  rw [e]; rfl
def sqS (s : Sg) (x y : Int) : Int := (s.x - x) * (s.x - x) + (s.y - y) * (s.y - y)
theorem ev_square (s : Sg) (x y : Int) (hs : -1000000 ≤ s.x ∧ s.x ≤ 1000000 ∧ -1000000 ≤ s.y ∧ s.y ≤ 1000000) (hx : -1000000 ≤ x ∧ x ≤ 1000000 ∧ -1000000 ≤ y ∧ y ≤ 1000000) : Ev Tryz.prog 47 [sgD s, iD x, iD y] (iD (sqS s x y)) := by
 have m1 := mul_bd (x := s.x - x) (y := s.x - x) (X := 2000000) (Y := 2000000) (by omega) (by omega)
 have m2 := mul_bd (x := s.y - y) (y := s.y - y) (X := 2000000) (Y := 2000000) (by omega) (by omega)
 refine ev_of_awp tysOk mixed (fn := Tryz.f47) Tryz.func47 rfl rfl rfl ?_
 conv => whnf
 repeat' (first|((with_reducible refine Wr.inr ?_ ?_);(first|omega|(simp;omega));conv=>whnf)|fail)
 rfl
def radB (r : Int) : Int := if outsideB r 0 2000000 then 2 else 0
theorem ev_checkRadius (r : Int) : Ev Tryz.prog 41 [iD r] (iD (radB r)) := by
 have h := ev_w1 r 0 2000000
 unfold radB
 generalize outsideB r 0 2000000 = b at *
 cases b
 ·refine ev_of_awp tysOk mixed (fn := Tryz.f41) Tryz.func41 rfl rfl rfl ?_
  conv => whnf
  repeat' (first|((with_reducible refine Split.of_false ?_);conv=>whnf)|(with_reducible refine Split.neg ?_)|((with_reducible refine AltK.l ?_);(conv=>whnf);(first|(refine CallK.mk _ (h) ?_));conv=>whnf)|fail)
  rfl
 ·refine ev_of_awp tysOk mixed (fn := Tryz.f41) Tryz.func41 rfl rfl rfl ?_
  conv => whnf
  repeat' (first|((with_reducible refine Split.of_true ?_);conv=>whnf)|(with_reducible refine Split.neg ?_)|((with_reducible refine AltK.l ?_);(conv=>whnf);(first|(refine CallK.mk _ (h) ?_));conv=>whnf)|fail)
  rfl
end Tryz
end Go.Proofs
end

section
/- A library function of the seat, laid (written by lay.sh). -/
open Go Go.Shelf
namespace Go.Proofs
def ly_LyG_ren : Shelf.Ren := ⟨fun | 6 => 49 | 15 => 61 | 14 => 63 | 28 => 83 | 29 => 84 | 20 => 94 | 21 => 95 | 22 => 96 | 23 => 97 | 24 => 98 | 25 => 99 | 26 => 100 | 27 => 101 | 46 => 113 | 47 => 106 | 48 => 107 | 49 => 114 | 50 => 115 | 57 => 120 | n => n, fun | 22 => 53 | 24 => 60 | 25 => 95 | 3 => 3 | 39 => 106 | 0 => 0 | 53 => 127 | 55 => 129 | 4 => 4 | 46 => 121 | 45 => 120 | 50 => 115 | 5 => 5 | 9 => 9 | 66 => 145 | 70 => 149 | 76 => 157 | 77 => 158 | n => n, fun | n => n⟩
theorem ly_LyG : Go.Proofs.SlLaysF0.n6 Tryz.prog ly_LyG_ren where
 mixed := by kernel_rfl
 f6 := ⟨ "slices.SortFunc[[][2]int,[2]int]", by decide, Tryz.func49.trans (congrArg some (by kernel_rfl))⟩
 f14 := ⟨ "slices.pdqsortCmpFunc[[2]int]", by decide, Tryz.func63.trans (congrArg some (by kernel_rfl))⟩
 f15 := Tryz.func61.trans (congrArg some (by kernel_rfl))
 f20 := ⟨ "slices.insertionSortCmpFunc[[2]int]", by decide, Tryz.func94.trans (congrArg some (by kernel_rfl))⟩
 f21 := ⟨ "slices.heapSortCmpFunc[[2]int]", by decide, Tryz.func95.trans (congrArg some (by kernel_rfl))⟩
 f22 := ⟨ "slices.breakPatternsCmpFunc[[2]int]", by decide, Tryz.func96.trans (congrArg some (by kernel_rfl))⟩
 f23 := ⟨ "slices.choosePivotCmpFunc[[2]int]", by decide, Tryz.func97.trans (congrArg some (by kernel_rfl))⟩
 f24 := ⟨ "slices.reverseRangeCmpFunc[[2]int]", by decide, Tryz.func98.trans (congrArg some (by kernel_rfl))⟩
 f25 := ⟨ "slices.partialInsertionSortCmpFunc[[2]int]", by decide, Tryz.func99.trans (congrArg some (by kernel_rfl))⟩
 f26 := ⟨ "slices.partitionEqualCmpFunc[[2]int]", by decide, Tryz.func100.trans (congrArg some (by kernel_rfl))⟩
 f27 := ⟨ "slices.partitionCmpFunc[[2]int]", by decide, Tryz.func101.trans (congrArg some (by kernel_rfl))⟩
 f28 := Tryz.func83.trans (congrArg some (by kernel_rfl))
 f29 := Tryz.func84.trans (congrArg some (by kernel_rfl))
 f46 := ⟨ "slices.siftDownCmpFunc[[2]int]", by decide, Tryz.func113.trans (congrArg some (by kernel_rfl))⟩
 f47 := Tryz.func106.trans (congrArg some (by kernel_rfl))
 f48 := Tryz.func107.trans (congrArg some (by kernel_rfl))
 f49 := ⟨ "slices.medianAdjacentCmpFunc[[2]int]", by decide, Tryz.func114.trans (congrArg some (by kernel_rfl))⟩
 f50 := ⟨ "slices.medianCmpFunc[[2]int]", by decide, Tryz.func115.trans (congrArg some (by kernel_rfl))⟩
 f57 := ⟨ "slices.order2CmpFunc[[2]int]", by decide, Tryz.func120.trans (congrArg some (by kernel_rfl))⟩
 t0 := Tryz.underlying0
 a0 := Tryz.isAgg0
 z0 := Tryz.sizeOf0
 v0 := Tryz.zeroValue0
 t3 := Tryz.underlying3
 a3 := Tryz.isAgg3
 z3 := Tryz.sizeOf3
 v3 := Tryz.zeroValue3
 t4 := Tryz.underlying4
 a4 := Tryz.isAgg4
 z4 := Tryz.sizeOf4
 v4 := Tryz.zeroValue4
 t5 := Tryz.underlying5
 a5 := Tryz.isAgg5
 z5 := Tryz.sizeOf5
 v5 := Tryz.zeroValue5
 t9 := Tryz.underlying9
 a9 := Tryz.isAgg9
 z9 := Tryz.sizeOf9
 v9 := Tryz.zeroValue9
 t22 := Tryz.underlying53
 a22 := Tryz.isAgg53
 z22 := Tryz.sizeOf53
 v22 := Tryz.zeroValue53
 t25 := Tryz.underlying95
 a25 := Tryz.isAgg95
 z25 := Tryz.sizeOf95
 v25 := Tryz.zeroValue95
 t39 := Tryz.underlying106
 a39 := Tryz.isAgg106
 z39 := Tryz.sizeOf106
 v39 := Tryz.zeroValue106
 t45 := Tryz.underlying120
 a45 := Tryz.isAgg120
 z45 := Tryz.sizeOf120
 v45 := Tryz.zeroValue120
 t46 := Tryz.underlying121
 a46 := Tryz.isAgg121
 z46 := Tryz.sizeOf121
 v46 := Tryz.zeroValue121
 t50 := Tryz.underlying115
 a50 := Tryz.isAgg115
 z50 := Tryz.sizeOf115
 v50 := Tryz.zeroValue115
 t53 := Tryz.underlying127
 a53 := Tryz.isAgg127
 z53 := Tryz.sizeOf127
 v53 := Tryz.zeroValue127
 t55 := Tryz.underlying129
 a55 := Tryz.isAgg129
 z55 := Tryz.sizeOf129
 v55 := Tryz.zeroValue129
 t66 := Tryz.underlying145
 a66 := Tryz.isAgg145
 z66 := Tryz.sizeOf145
 v66 := Tryz.zeroValue145
 t70 := Tryz.underlying149
 a70 := Tryz.isAgg149
 z70 := Tryz.sizeOf149
 v70 := Tryz.zeroValue149
 t76 := Tryz.underlying157
 a76 := Tryz.isAgg157
 z76 := Tryz.sizeOf157
 v76 := Tryz.zeroValue157
 t77 := Tryz.underlying158
 a77 := Tryz.isAgg158
 z77 := Tryz.sizeOf158
 v77 := Tryz.zeroValue158
end Go.Proofs
end

section
/- A library function of the seat, laid (written by lay.sh). -/
open Go Go.Shelf
namespace Go.Proofs
def ly_LyI_ren : Shelf.Ren := ⟨fun | 189 => 48 | 125 => 61 | 257 => 62 | 128 => 83 | 129 => 84 | 294 => 85 | 295 => 86 | 296 => 87 | 297 => 88 | 298 => 89 | 299 => 90 | 216 => 91 | 300 => 92 | 301 => 93 | 328 => 110 | 329 => 106 | 330 => 107 | 331 => 111 | 332 => 112 | 215 => 54 | 343 => 119 | n => n, fun | 28 => 23 | 3 => 3 | 46 => 106 | 0 => 0 | 51 => 127 | 53 => 129 | 4 => 4 | 183 => 121 | 182 => 120 | 131 => 115 | 5 => 5 | 9 => 9 | 218 => 145 | 222 => 149 | 228 => 157 | 229 => 158 | n => n, fun | n => n⟩
theorem ly_LyI : Go.Proofs.Lays.n189 Tryz.prog ly_LyI_ren where
 mixed := by kernel_rfl
 f125 := Tryz.func61.trans (congrArg some (by kernel_rfl))
 f128 := Tryz.func83.trans (congrArg some (by kernel_rfl))
 f129 := Tryz.func84.trans (congrArg some (by kernel_rfl))
 f189 := Tryz.func48.trans (congrArg some (by kernel_rfl))
 f215 := Tryz.func54.trans (congrArg some (by kernel_rfl))
 f216 := Tryz.func91.trans (congrArg some (by kernel_rfl))
 f257 := Tryz.func62.trans (congrArg some (by kernel_rfl))
 f294 := Tryz.func85.trans (congrArg some (by kernel_rfl))
 f295 := Tryz.func86.trans (congrArg some (by kernel_rfl))
 f296 := Tryz.func87.trans (congrArg some (by kernel_rfl))
 f297 := Tryz.func88.trans (congrArg some (by kernel_rfl))
 f298 := Tryz.func89.trans (congrArg some (by kernel_rfl))
 f299 := Tryz.func90.trans (congrArg some (by kernel_rfl))
 f300 := Tryz.func92.trans (congrArg some (by kernel_rfl))
 f301 := Tryz.func93.trans (congrArg some (by kernel_rfl))
 f328 := Tryz.func110.trans (congrArg some (by kernel_rfl))
 f329 := Tryz.func106.trans (congrArg some (by kernel_rfl))
 f330 := Tryz.func107.trans (congrArg some (by kernel_rfl))
 f331 := Tryz.func111.trans (congrArg some (by kernel_rfl))
 f332 := Tryz.func112.trans (congrArg some (by kernel_rfl))
 f343 := Tryz.func119.trans (congrArg some (by kernel_rfl))
 t0 := Tryz.underlying0
 a0 := Tryz.isAgg0
 z0 := Tryz.sizeOf0
 v0 := Tryz.zeroValue0
 t3 := Tryz.underlying3
 a3 := Tryz.isAgg3
 z3 := Tryz.sizeOf3
 v3 := Tryz.zeroValue3
 t4 := Tryz.underlying4
 a4 := Tryz.isAgg4
 z4 := Tryz.sizeOf4
 v4 := Tryz.zeroValue4
 t5 := Tryz.underlying5
 a5 := Tryz.isAgg5
 z5 := Tryz.sizeOf5
 v5 := Tryz.zeroValue5
 t9 := Tryz.underlying9
 a9 := Tryz.isAgg9
 z9 := Tryz.sizeOf9
 v9 := Tryz.zeroValue9
 t28 := Tryz.underlying23
 a28 := Tryz.isAgg23
 z28 := Tryz.sizeOf23
 v28 := Tryz.zeroValue23
 t46 := Tryz.underlying106
 a46 := Tryz.isAgg106
 z46 := Tryz.sizeOf106
 v46 := Tryz.zeroValue106
 t51 := Tryz.underlying127
 a51 := Tryz.isAgg127
 z51 := Tryz.sizeOf127
 v51 := Tryz.zeroValue127
 t53 := Tryz.underlying129
 a53 := Tryz.isAgg129
 z53 := Tryz.sizeOf129
 v53 := Tryz.zeroValue129
 t131 := Tryz.underlying115
 a131 := Tryz.isAgg115
 z131 := Tryz.sizeOf115
 v131 := Tryz.zeroValue115
 t182 := Tryz.underlying120
 a182 := Tryz.isAgg120
 z182 := Tryz.sizeOf120
 v182 := Tryz.zeroValue120
 t183 := Tryz.underlying121
 a183 := Tryz.isAgg121
 z183 := Tryz.sizeOf121
 v183 := Tryz.zeroValue121
 t218 := Tryz.underlying145
 a218 := Tryz.isAgg145
 z218 := Tryz.sizeOf145
 v218 := Tryz.zeroValue145
 t222 := Tryz.underlying149
 a222 := Tryz.isAgg149
 z222 := Tryz.sizeOf149
 v222 := Tryz.zeroValue149
 t228 := Tryz.underlying157
 a228 := Tryz.isAgg157
 z228 := Tryz.sizeOf157
 v228 := Tryz.zeroValue157
 t229 := Tryz.underlying158
 a229 := Tryz.isAgg158
 z229 := Tryz.sizeOf158
 v229 := Tryz.zeroValue158
end Go.Proofs
end

section
namespace Go.Proofs.Tryz
open Go Go.Vm Go.Sort
set_option maxRecDepth 20000
set_option maxHeartbeats 2000000
theorem orI4 (a b c d : Int) : orI [a, b, c, d] < 0 ↔ a < 0 ∨ a = 0 ∧ (b < 0 ∨ b = 0 ∧ (c < 0 ∨ c = 0 ∧ d < 0)) := by
 simp only [orI]
 repeat' split
 all_goals omega
theorem cmpI_neg (x y : Int) : cmpI x y < 0 ↔ x < y := by
 unfold cmpI
 repeat' split
 all_goals omega
theorem cmpI_zero (x y : Int) : cmpI x y = 0 ↔ x = y := by
 unfold cmpI
 repeat' split
 all_goals omega
theorem cfThin_lt (a b : Sg) : cfThin a b < 0 ↔ b.hi < a.hi ∨ b.hi = a.hi ∧ (a.x < b.x ∨ a.x = b.x ∧ (a.y < b.y ∨ a.y = b.y ∧ a.n < b.n)) := by
 unfold cfThin
 rw [orI4]
 simp only [cmpI_neg, cmpI_zero]
theorem swoThin : SWO fun x y => decide (cfThin x y < 0) where
 irrefl x := by simp only [cfThin_lt, decide_eq_false_iff_not]; omega
 trans x y z := by simp only [cfThin_lt, decide_eq_true_eq]; omega
 ntrans x y z := by simp only [cfThin_lt, decide_eq_false_iff_not]; omega
def NoTwo (l : List Sg) : Prop := l.Pairwise fun a b => a.n ≠ b.n
theorem noTwo_eq {l : List Sg} (h : NoTwo l) : ∀ x ∈ l, ∀ y ∈ l, x.n = y.n → x = y := by
 intro x hx y hy e
 obtain ⟨i, hi, rfl⟩ := List.getElem_of_mem hx
 obtain ⟨j, hj, rfl⟩ := List.getElem_of_mem hy
 rcases Nat.lt_trichotomy i j with h1 | h1 | h1
 ·exact absurd e (List.pairwise_iff_getElem.1 h i j hi hj h1)
 ·subst h1; rfl
 ·exact absurd e.symm (List.pairwise_iff_getElem.1 h j i hj hi h1)
theorem xv_SortThin (l : List Sg) (hu : NoTwo l) (hl : l.length ≤ 500) : EvX Tryz.prog 42 [.own 1000 5 (l.map sgD).length, .d (.fn 43 [])] [(1000, .row 40 5 (l.map sgD) false)] (.tup []) [(1000, .row 40 5 ((sortL cfThin l).map sgD) false)] := by
 have h := EvX.sortFunc ly_LyS sgD 5 (fun w => isAgg40 w) (fun w => sizeOf40 w) (fun _ => rfl) (fun x c hc => by
  simp only [sgD, D.cells, List.mem_cons, List.mem_nil_iff, or_false] at hc
  rcases hc with rfl | rfl | rfl | rfl | rfl <;> rfl) (fun x => ⟨_, rfl⟩) cfThin swoThin 43 [] l (fun x hx y hy h1 h2 => noTwo_eq hu x hx y hy (by
  rw [cfThin_lt] at h1 h2; omega)) (fun x _ y _ => ev_Thin1 x y) (by omega) 1000
 rw [List.length_map]
 exact h
theorem ev_Thin2 (k s : Sg) (r : Int) (hk : -1000000 ≤ k.x ∧ k.x ≤ 1000000 ∧ -1000000 ≤ k.y ∧ k.y ≤ 1000000) (hs : -1000000 ≤ s.x ∧ s.x ≤ 1000000 ∧ -1000000 ≤ s.y ∧ s.y ≤ 1000000) (hr : 0 ≤ r ∧ r ≤ 2000000) :
 Ev Tryz.prog 46 [sgD k, .ref [iD s.n, iD s.x, iD s.y, iD s.lo, iD s.hi] 0, .ref [iD r] 0] (.bool (decide (sqS k s.x s.y ≤ r * r))) := by
 have h := ev_square k s.x s.y hk hs
 have m := mul_bd (x := r) (y := r) (X := 2000000) (Y := 2000000) (by omega) (by omega)
 refine ev_of_awp tysOk mixed (fn := Tryz.f46) Tryz.func46 rfl rfl rfl ?_
 conv => whnf
 repeat' (first|((with_reducible refine Wr.inr ?_ ?_);(first|omega|(simp;omega));conv=>whnf)|((with_reducible refine AltK.l ?_);(conv=>whnf);(first|(refine CallK.mk _ (h) ?_));conv=>whnf)|fail)
 rfl
theorem ev_Thin3 (a b : Int × Int) : Ev Tryz.prog 50 [.agg [iD a.1, iD a.2], .agg [iD b.1, iD b.2]] (iD (cmpI a.1 b.1)) := by
 refine ev_of_awp tysOk mixed (fn := Tryz.f50) Tryz.func50 rfl rfl rfl ?_
 conv => whnf
 repeat' (first|((with_reducible refine Need.mk ?_ ?_);(first|omega|rfl|decide|(refine ⟨?_,?_⟩<;>simp<;>omega)|(simp;omega));conv=>whnf)|((with_reducible refine AltK.l ?_);(conv=>whnf);(first|(refine CallK.mk _ (ev_Compare _ _) ?_));conv=>whnf)|fail)
 rfl
end Go.Proofs.Tryz
end

section
namespace Go.Proofs.Tryz
open Go Go.Vm Go.Sort
set_option maxRecDepth 20000
set_option maxHeartbeats 2000000
def gdD (p : Int × Int) : D := .agg [iD p.1, iD p.2]
theorem xv_SortG (l : List (Int × Int)) (hu : l.Pairwise fun a b => a.1 ≠ b.1) (hl : l.length ≤ 500) : EvX Tryz.prog 49 [.own 1000 2 (l.map gdD).length, .d (.fn 50 [])] [(1000, .row 60 2 (l.map gdD) false)] (.tup []) [(1000, .row 60 2 ((sortL (fun a b => cmpI a.1 b.1) l).map gdD) false)] := by
 have h := EvX.sortFunc ly_LyG gdD 2 (fun w => isAgg60 w) (fun w => sizeOf60 w) (fun _ => rfl) (fun x c hc => by
  simp only [gdD, D.cells, List.mem_cons, List.mem_nil_iff, or_false] at hc
  rcases hc with rfl | rfl <;> rfl) (fun x => ⟨_, rfl⟩) (fun a b => cmpI a.1 b.1) ⟨fun x => by simp only [cmpI_neg, decide_eq_false_iff_not]; omega, fun x y z => by simp only [cmpI_neg, decide_eq_true_eq]; omega, fun x y z => by simp only [cmpI_neg, decide_eq_false_iff_not]; omega⟩
  50 [] l (fun x hx y hy h1 h2 => by
   have e : x.1 = y.1 := by rw [cmpI_neg] at h1 h2; omega
   obtain ⟨i, hi, rfl⟩ := List.getElem_of_mem hx
   obtain ⟨j, hj, rfl⟩ := List.getElem_of_mem hy
   rcases Nat.lt_trichotomy i j with h3 | h3 | h3
   ·exact absurd e (List.pairwise_iff_getElem.1 hu i j hi hj h3)
   ·subst h3; rfl
   ·exact absurd e.symm (List.pairwise_iff_getElem.1 hu j i hj hi h3)) (fun x _ y _ => ev_Thin3 x y) (by omega) 1000
 rw [List.length_map]
 exact h
theorem xv_SortI (l : List Int) (hl : l.length ≤ 500) : EvX Tryz.prog 48 [.own 1000 1 (l.map iD).length] [(1000, .row 3 1 (l.map iD) false)] (.tup []) [(1000, .row 3 1 ((sortZ l).map iD) false)] := by
 have h := EvX.sortInts ly_LyI 3 l (by omega) 1000
 rw [List.length_map]
 exact h
theorem ev_SortThin0 : Ev Tryz.prog 42 [.sl 5 [], .fn 43 []] (.tup []) := Ev.sortNone ly_LyS 5 _ _
theorem ev_SortG0 : Ev Tryz.prog 49 [.sl 2 [], .fn 50 []] (.tup []) := Ev.sortNone ly_LyG 2 _ _
theorem ev_SortI0 : Ev Tryz.prog 48 [.sl 1 []] (.tup []) := Ev.sortIntsNone ly_LyI
def thinStep (r : Int) (st : List Sg × List (Int × Int)) (s : Sg) : List Sg × List (Int × Int) := match st.1.find? fun k => decide (sqS k s.x s.y ≤ r * r) with
 | none => (st.1 ++ [s], st.2)
 | some k => (st.1, st.2 ++ [(s.n, k.n)])
def thinO (r : Int) (o : List Sg) : List Sg × List (Int × Int) := o.foldl (thinStep r) ([], [])
def thinRes (l : List Sg) (r : Int) : List Int × List (Int × Int) × Int := if chkErr sgB Sg.n l ≠ 0 then ([], [], chkErr sgB Sg.n l) else if radB r ≠ 0 then ([], [], radB r) else
 (sortZ ((thinO r (sortL cfThin l)).1.map Sg.n), sortL (fun a b => cmpI a.1 b.1) (thinO r (sortL cfThin l)).2, 0)
def thD (k : List Int) (g : List (Int × Int)) : D := .agg [.sl 1 (k.map iD), .sl 2 (g.map gdD)]
def thE (x : List Int × List (Int × Int) × Int) : D := .tup [thD x.1 x.2.1, .int .i64 x.2.2]
theorem thinO_snoc (r : Int) {o : List Sg} {i : Nat} {s : Sg} (h : o[i]? = some s) : thinO r (o.take (i + 1)) = thinStep r (thinO r (o.take i)) s := by
 rw [thinO, take_snoc h, List.foldl_append]; rfl
theorem thinO_app (r : Int) (o : List Sg) (s : Sg) : thinO r (o ++ [s]) = thinStep r (thinO r o) s := by
 rw [thinO, List.foldl_append]; rfl
theorem list_snoc {α : Type} {P : List α → Prop} (h0 : P []) (h1 : ∀ l a, P l → P (l ++ [a])) (l : List α) : P l := by
 induction hn : l.length generalizing l with
 | zero => rw [List.eq_nil_of_length_eq_zero hn]; exact h0
 | succ n ih =>
  rcases nil_or_snoc l with rfl | ⟨r, a, rfl⟩
  ·exact h0
  ·exact h1 r a (ih r (by simpa using hn))
theorem thinO_sub (r : Int) (o : List Sg) : ∀ k ∈ (thinO r o).1, k ∈ o := by
 refine list_snoc (P := fun o => ∀ k ∈ (thinO r o).1, k ∈ o) (fun k h => (by cases h)) (fun o s ih k hk => ?_) o
 rw [thinO_app, thinStep] at hk
 rw [List.mem_append]
 split at hk
 ·rcases List.mem_append.1 hk with h | h
  ·exact .inl (ih k h)
  ·exact .inr h
 ·exact .inl (ih k hk)
theorem thinO_len (r : Int) (o : List Sg) : (thinO r o).1.length + (thinO r o).2.length = o.length := by
 refine list_snoc (P := fun o => (thinO r o).1.length + (thinO r o).2.length = o.length) rfl (fun o s ih => ?_) o
 rw [thinO_app, thinStep]
 split <;> simp <;> omega
theorem rad_bd {r : Int} (h : radB r = 0) : 0 ≤ r ∧ r ≤ 2000000 := by
 unfold radB outsideB at h
 split at h
 ·cases h
 ·rename_i h1; simp at h1; omega
theorem sg_place {s : Sg} (h : sgB s = true) : -1000000 ≤ s.x ∧ s.x ≤ 1000000 ∧ -1000000 ≤ s.y ∧ s.y ≤ 1000000 := by
 simp only [sgB, outsideB, Bool.and_eq_true, Bool.not_eq_true', Bool.or_eq_false_iff, decide_eq_false_iff_not] at h
 omega
theorem thinO_fst (r : Int) (o : List Sg) : ∀ p ∈ (thinO r o).2, ∃ s ∈ o, p.1 = s.n := by
 refine list_snoc (P := fun o => ∀ p ∈ (thinO r o).2, ∃ s ∈ o, p.1 = s.n) (fun k h => (by cases h)) (fun o s ih p hp => ?_) o
 rw [thinO_app, thinStep] at hp
 split at hp
 ·obtain ⟨t, h1, h2⟩ := ih p hp; exact ⟨t, List.mem_append_left _ h1, h2⟩
 ·rcases List.mem_append.1 hp with hp | hp
  ·obtain ⟨t, h1, h2⟩ := ih p hp; exact ⟨t, List.mem_append_left _ h1, h2⟩
  ·rw [List.mem_singleton.1 hp]; exact ⟨s, by simp, rfl⟩
theorem thinO_pairs (r : Int) (o : List Sg) : NoTwo o → (thinO r o).2.Pairwise fun a b => a.1 ≠ b.1 := by
 refine list_snoc (P := fun o => NoTwo o → (thinO r o).2.Pairwise fun a b => a.1 ≠ b.1) (fun _ => .nil) (fun o s ih hu => ?_) o
 obtain ⟨h1, _, h2⟩ := List.pairwise_append.1 hu
 rw [thinO_app, thinStep]
 split
 ·exact ih h1
 ·refine List.pairwise_append.2 ⟨ih h1, by simp, fun p hp q hq => ?_⟩
  rw [List.mem_singleton.1 hq]
  obtain ⟨t, h3, h4⟩ := thinO_fst r o p hp
  rw [h4]; exact h2 t h3 s (by simp)
theorem thin_pairs (r : Int) {l : List Sg} (hu : NoTwo l) : (thinO r (sortL cfThin l)).2.Pairwise fun a b => a.1 ≠ b.1 :=
 thinO_pairs r _ ((sortL_perm cfThin l).symm.pairwise hu fun h e => h e.symm)
theorem thinStep_none {r : Int} {kp : List Sg} {gs : List (Int × Int)} {s : Sg} (h : kp.findIdx? (fun k => decide (sqS k s.x s.y ≤ r * r)) = none) : thinStep r (kp, gs) s = (kp ++ [s], gs) := by
 have : kp.find? (fun k => decide (sqS k s.x s.y ≤ r * r)) = none := by
  rw [List.find?_eq_none]
  intro x hx
  rw [List.findIdx?_eq_none_iff.1 h x hx]; decide
 rw [thinStep]; simp only [this]
theorem thinStep_some {r : Int} {kp : List Sg} {gs : List (Int × Int)} {s : Sg} {j : Nat} (h : kp.findIdx? (fun k => decide (sqS k s.x s.y ≤ r * r)) = some j) : ∃ k, kp[j]? = some k ∧ thinStep r (kp, gs) s = (kp, gs ++ [(s.n, k.n)]) := by
 obtain ⟨h1, h2, h3⟩ := List.findIdx?_eq_some_iff_getElem.1 h
 refine ⟨kp[j], List.getElem?_eq_getElem h1, ?_⟩
 have : kp.find? (fun k => decide (sqS k s.x s.y ≤ r * r)) = some kp[j] := by
  rw [List.find?_eq_some_iff_getElem]
  exact ⟨h2, j, h1, rfl, fun i hi => by simpa using h3 i hi⟩
 rw [thinStep]; simp only [this]
theorem ev_Thin (l : List Sg) (r : Int) : Ev Tryz.prog 18 [.sl 5 (l.map sgD), iD r] (thE (thinRes l r)) := by
 have hlen : (l.map sgD).length = l.length := List.length_map _
 have h1 := ev_CheckS l
 have h2 := ev_checkRadius r
 by_cases c0 : chkErr sgB Sg.n l = 0
 ·rw [thinRes, if_neg (by simpa using c0)]
  rw [c0] at h1
  by_cases r0 : radB r = 0
  ·rw [if_neg (by simpa using r0)]
   rw [r0] at h2
   obtain ⟨hl5, hall, hu⟩ := chk_zero c0
   by_cases hn : l = []
   ·subst hn
    refine ev_of_awp tysOk mixed (fn := Tryz.f18) Tryz.func18 rfl rfl rfl ?_
    conv => whnf
    repeat' (first|((refine LoopK.unr 1 ?_);conv=>whnf)|((with_reducible refine Split.is_false ?_ ?_);decide;conv=>whnf)|((with_reducible refine Need.mk ?_ ?_);(first|omega|rfl|decide|(refine ⟨?_,?_⟩<;>simp<;>omega)|(simp;omega));conv=>whnf)|((with_reducible refine AltK.l ?_);(conv=>whnf);(first|(refine CallK.mk _ (h1) ?_)|(refine CallK.mk _ (h2) ?_)|(refine CallK.mk _ (ev_cloneS [] (by simp)) ?_)|(refine CallK.mk _ (ev_SortThin0) ?_)|(refine CallK.mk _ (ev_SortG0) ?_)|(refine CallK.mk _ (ev_SortI0) ?_));conv=>whnf)|fail)
    rw [show sortL cfThin ([] : List Sg) = [] from List.eq_nil_of_length_eq_zero (by rw [sortL_len]; rfl)]
    show _ = thE (sortZ [], sortL (fun a b => cmpI a.1 b.1) [], 0)
    rw [show sortZ [] = [] from List.eq_nil_of_length_eq_zero (by rw [sortZ_len]; rfl), show sortL (fun a b : Int × Int => cmpI a.1 b.1) [] = [] from List.eq_nil_of_length_eq_zero (by rw [sortL_len]; rfl)]
    rfl
   ·have h3 := EvX.new1 (xs := [.sl 5 (l.map sgD)]) (xv_cloneS l (by have := List.length_pos_iff.2 hn; omega)) 27
    refine ev_of_awp tysOk mixed (fn := Tryz.f18) Tryz.func18 rfl rfl rfl ?_
    have h4 := EvX.at1t (xs := [.fn 43 []]) (xv_SortThin l hu hl5) 27
    have hr := rad_bd r0
    have ho : ∀ g ∈ sortL cfThin l, -1000000 ≤ g.x ∧ g.x ≤ 1000000 ∧ -1000000 ≤ g.y ∧ g.y ≤ 1000000 := fun g hg => sg_place (hall g ((sortL_perm cfThin l).subset hg))
    have hol : (sortL cfThin l).length = l.length := sortL_len _ _
    have hnk := thin_pairs r hu
    conv => whnf
    repeat' (first|((with_reducible refine Split.is_false ?_ ?_);decide;conv=>whnf)|((with_reducible refine AltK.r ?_);(conv=>whnf);(first|(refine CallX.mk _ _ (h3) rfl ?_)|(refine CallX.mk _ _ (h4) rfl ?_));conv=>whnf)|((with_reducible refine AltK.l ?_);(conv=>whnf);(first|(refine CallK.mk _ (h1) ?_)|(refine CallK.mk _ (h2) ?_));conv=>whnf)|fail)
    generalize sortL cfThin l = o at *
    have eo : (o.map sgD).length = o.length := List.length_map _
    refine LoopK.o2 (fun i : Nat => i ≤ o.length) (fun i => [(9, .own 200 5 ((thinO r (o.take i)).1.map sgD).length), (32, .d (.int .i64 i))])
     (fun i => [(3, .var [.d (iD r)] true), (200, .row 40 5 ((thinO r (o.take i)).1.map sgD) true), (10, .var [.own 201 1 (((thinO r (o.take i)).1.map Sg.n).map iD).length, .own 202 2 ((thinO r (o.take i)).2.map gdD).length] false),
       (201, .row 3 1 (((thinO r (o.take i)).1.map Sg.n).map iD) false), (202, .row 60 2 ((thinO r (o.take i)).2.map gdD) false)]) (fun i => o.length - i) 0 (by simp) (by refine ⟨?_, ?_, rfl⟩<;>(repeat' (first|exact True.intro|exact rfl|(refine ⟨?_,?_⟩)|(intro h;cases h;done)|fail));done) ?_
    rintro i hi
    have hnx : (i : Int) < o.length → ∃ m, o[i]? = some m := fun h => some_of_lt (by omega)
    have hki := thinO_sub r (o.take i)
    have hgl := thinO_len r (o.take i)
    rw [List.length_take] at hgl
    conv => whnf
    repeat' (first|((with_reducible refine Split.dec (fun _=>?_) (fun _=>?_))<;>conv=>whnf)|((with_reducible refine Need.mk ?_ ?_);(first|omega|rfl|decide|(refine ⟨?_,?_⟩<;>simp<;>omega)|(simp;omega));conv=>whnf)|fail)
    ·obtain ⟨s, hs⟩ := hnx (by omega)
     have hst := thinO_snoc r hs
     have hsp := ho s (List.mem_of_getElem? hs)
     generalize thinO r (o.take i) = q at *
     obtain ⟨kp, gs⟩ := q
     dsimp only at hki hgl hst ⊢
     have h5 := ev_IndexS kp 46 [.ref [iD s.n, iD s.x, iD s.y, iD s.lo, iD s.hi] 0, .ref [iD r] 0] (fun k => decide (sqS k s.x s.y ≤ r * r)) (by omega) (fun k hk => ev_Thin2 k s r (ho k (List.mem_of_mem_take (hki k hk))) hsp hr)
     cases hf : kp.findIdx? fun k => decide (sqS k s.x s.y ≤ r * r) with
     | none =>
      rw [thinStep_none hf] at hst
      rw [hf] at h5
      simp only at h5
      conv => whnf
      repeat' (first|((refine PickE.map i hs (by omega) ?_);conv=>whnf)|((with_reducible refine Split.is_true ?_ ?_);decide;conv=>whnf)|((with_reducible refine Need.mk ?_ ?_);(first|omega|rfl|decide|(refine ⟨?_,?_⟩<;>simp<;>omega)|(simp;omega));conv=>whnf)|((with_reducible refine Wr.inr ?_ ?_);(first|omega|(simp;omega));conv=>whnf)|((with_reducible refine AltK.l ?_);(conv=>whnf);(first|(refine CallK.mk _ (h5) ?_));conv=>whnf)|fail)
      refine Again.au (i + 1) (by omega) (by omega) (by refine ⟨?_, ?_, rfl⟩<;>(repeat' (first|exact True.intro|exact rfl|(refine ⟨?_,?_⟩)|(intro h;cases h;done)|(intro h;exact h)|((first|refine own_congr ?_|refine int_congr ?_|skip);simp [hst,sgD];done)|fail));done)
     | some j =>
      obtain ⟨k, hk, hst2⟩ := thinStep_some (gs := gs) hf
      rw [hst2] at hst
      have hjl : j < kp.length := (List.getElem?_eq_some_iff.1 hk).1
      rw [hf] at h5
      simp only at h5
      conv => whnf
      repeat' (first|((refine PickE.map j hk (by omega) ?_);conv=>whnf)|((refine PickE.map i hs (by omega) ?_);conv=>whnf)|((with_reducible refine Split.dec (fun _=>?_) (fun _=>?_))<;>conv=>whnf)|((with_reducible refine Need.mk ?_ ?_);(first|omega|rfl|decide|(refine ⟨?_,?_⟩<;>simp<;>omega)|(simp;omega));conv=>whnf)|((with_reducible refine Wr.inr ?_ ?_);(first|omega|(simp;omega));conv=>whnf)|((with_reducible refine AltK.l ?_);(conv=>whnf);(first|(refine CallK.mk _ (h5) ?_));conv=>whnf)|(exfalso;first|omega|contradiction)|fail)
      refine Again.au (i + 1) (by omega) (by omega) (by refine ⟨?_, ?_, rfl⟩<;>(repeat' (first|exact True.intro|exact rfl|(refine ⟨?_,?_⟩)|(intro h;cases h;done)|(intro h;exact h)|((first|refine own_congr ?_|refine int_congr ?_|skip);simp [hst,gdD];done)|fail));done)
    ·have ei : i = o.length := by omega
     subst ei
     rw [List.take_length] at hgl ⊢
     have h6 := EvX.at1t (xs := []) (xv_SortI ((thinO r o).1.map Sg.n) (by rw [List.length_map]; omega)) 201
     have h7 := EvX.at1t (xs := [.fn 50 []]) (xv_SortG (thinO r o).2 hnk (by omega)) 202
     conv => whnf
     repeat' (first|((with_reducible refine Need.mk ?_ ?_);(first|omega|rfl|decide|(refine ⟨?_,?_⟩<;>simp<;>omega)|(simp;omega));conv=>whnf)|((with_reducible refine AltK.r ?_);(conv=>whnf);(first|(refine CallX.mk _ _ (h6) rfl ?_)|(refine CallX.mk _ _ (h7) rfl ?_));conv=>whnf)|fail)
     rfl
  ·rw [if_pos r0]
   refine ev_of_awp tysOk mixed (fn := Tryz.f18) Tryz.func18 rfl rfl rfl ?_
   conv => whnf
   repeat' (first|((with_reducible refine Split.is_false ?_ ?_);decide;conv=>whnf)|((with_reducible refine Split.nez (fun _=>?_) (fun _=>?_))<;>conv=>whnf)|((with_reducible refine Need.mk ?_ ?_);(first|omega|rfl|decide|(refine ⟨?_,?_⟩<;>simp<;>omega)|(simp;omega));conv=>whnf)|((with_reducible refine AltK.l ?_);(conv=>whnf);(first|(refine CallK.mk _ (h1) ?_)|(refine CallK.mk _ (h2) ?_));conv=>whnf)|(exfalso;first|omega|contradiction)|fail)
   all_goals simp_all [retOf, thE, thD, iD]
 ·rw [thinRes, if_pos c0]
  refine ev_of_awp tysOk mixed (fn := Tryz.f18) Tryz.func18 rfl rfl rfl ?_
  conv => whnf
  repeat' (first|((with_reducible refine Split.nez (fun _=>?_) (fun _=>?_))<;>conv=>whnf)|((with_reducible refine Need.mk ?_ ?_);(first|omega|rfl|decide|(refine ⟨?_,?_⟩<;>simp<;>omega)|(simp;omega));conv=>whnf)|((with_reducible refine AltK.l ?_);(conv=>whnf);(first|(refine CallK.mk _ (h1) ?_)|(refine CallK.mk _ (h2) ?_));conv=>whnf)|(exfalso;first|omega|contradiction)|fail)
  all_goals simp_all [retOf, thE, thD, iD]
end Go.Proofs.Tryz
end

section
namespace Go.Proofs.Tryz
open Go Go.Vm Go.Sort
/-! Plain laws of sorted lists. -/
theorem sorted_unique {α : Type} {lt : α → α → Prop} (has : ∀ a b, lt a b → ¬ lt b a) : ∀ {l m : List α}, l.Perm m → l.Pairwise lt → m.Pairwise lt → l = m
 | [], m, hp, _, _ => by rw [List.nil_perm.1 hp]
 | a :: l, [], hp, _, _ => by have := hp.length_eq; simp at this
 | a :: l, b :: m, hp, hl, hm => by
  have hab : a = b := by
   have h1 : a ∈ b :: m := hp.subset List.mem_cons_self
   have h2 : b ∈ a :: l := hp.symm.subset List.mem_cons_self
   rcases List.mem_cons.1 h1 with h1 | h1
   ·exact h1
   ·rcases List.mem_cons.1 h2 with h2 | h2
    ·exact h2.symm
    ·exact absurd ((List.pairwise_cons.1 hl).1 b h2) (has b a ((List.pairwise_cons.1 hm).1 a h1))
  subst hab
  rw [sorted_unique has (List.Perm.cons_inv hp) (List.pairwise_cons.1 hl).2 (List.pairwise_cons.1 hm).2]
theorem sortL_sorted {α : Type} {cf : α → α → Int} (hO : SWO fun x y => decide (cf x y < 0)) (l : List α) : (sortL cf l).Pairwise fun a b => ¬ cf b a < 0 := by
 have h := List.pairwise_mergeSort (le := fun x y => !decide (cf y x < 0)) (fun a b c h1 h2 => by
  simp only [Bool.not_eq_true', decide_eq_false_iff_not] at h1 h2 ⊢
  have := hO.ntrans c b a (by simpa using h2) (by simpa using h1)
  simpa using this) (fun a b => by
  simp only [Bool.or_eq_true, Bool.not_eq_true', decide_eq_false_iff_not]
  by_cases h : cf b a < 0
  ·right
   intro h'
   have := hO.trans a b a (by simpa using h') (by simpa using h)
   rw [hO.irrefl] at this; cases this
  ·exact .inl h) l
 refine h.imp fun {a b} h => ?_
 simpa using h
theorem sortL_strict {α : Type} {cf : α → α → Int} (hO : SWO fun x y => decide (cf x y < 0)) {l : List α} (hn : l.Nodup) (hT : ∀ x ∈ l, ∀ y ∈ l, ¬ cf x y < 0 → ¬ cf y x < 0 → x = y) : (sortL cf l).Pairwise fun a b => cf a b < 0 := by
 have hnd : (sortL cf l).Nodup := (sortL_perm cf l).nodup_iff.2 hn
 have h := (sortL_sorted hO l).and hnd
 refine List.Pairwise.imp_of_mem ?_ h
 intro a b ha hb ⟨h1, h2⟩
 have ha := (sortL_perm cf l).subset ha
 have hb := (sortL_perm cf l).subset hb
 by_cases h3 : cf a b < 0
 ·exact h3
 ·exact absurd (hT a ha b hb h3 h1) h2
theorem sortL_eq {α : Type} {cf : α → α → Int} (hO : SWO fun x y => decide (cf x y < 0)) {l m : List α} (hp : m.Perm l) (hs : m.Pairwise fun a b => cf a b < 0) : m = sortL cf l := by
 have has : ∀ a b, cf a b < 0 → ¬ cf b a < 0 := fun a b h1 h2 => by
  have := hO.trans a b a (by simpa using h1) (by simpa using h2)
  rw [hO.irrefl] at this; cases this
 have hn : m.Nodup := hs.imp fun {a b} h (e : a = b) => by subst e; exact has a a h h
 have hln : l.Nodup := hp.nodup_iff.1 hn
 refine sorted_unique has (hp.trans (sortL_perm cf l).symm) hs (sortL_strict hO hln fun x hx y hy h1 h2 => ?_)
 have hx := hp.symm.subset hx
 have hy := hp.symm.subset hy
 obtain ⟨i, hi, rfl⟩ := List.getElem_of_mem hx
 obtain ⟨j, hj, rfl⟩ := List.getElem_of_mem hy
 rcases Nat.lt_trichotomy i j with h3 | h3 | h3
 ·exact absurd (List.pairwise_iff_getElem.1 hs i j hi hj h3) h1
 ·subst h3; rfl
 ·exact absurd (List.pairwise_iff_getElem.1 hs j i hj hi h3) h2
theorem sortZ_perm (l : List Int) : (sortZ l).Perm l := List.mergeSort_perm _ _
theorem sortZ_sorted (l : List Int) : (sortZ l).Pairwise fun a b => a ≤ b := by
 have h := List.pairwise_mergeSort (le := fun x y : Int => decide (x ≤ y)) (fun a b c h1 h2 => by simp at h1 h2 ⊢; omega) (fun a b => by simp; omega) l
 exact h.imp fun {a b} h => by simpa using h
theorem sortedZ_unique : ∀ {l m : List Int}, l.Perm m → l.Pairwise (fun a b => a ≤ b) → m.Pairwise (fun a b => a ≤ b) → l = m
 | [], m, hp, _, _ => by rw [List.nil_perm.1 hp]
 | a :: l, [], hp, _, _ => by have := hp.length_eq; simp at this
 | a :: l, b :: m, hp, hl, hm => by
  have hab : a = b := by
   have h1 : a ∈ b :: m := hp.subset List.mem_cons_self
   have h2 : b ∈ a :: l := hp.symm.subset List.mem_cons_self
   rcases List.mem_cons.1 h1 with h1 | h1
   ·exact h1
   ·rcases List.mem_cons.1 h2 with h2 | h2
    ·exact h2.symm
    ·have := (List.pairwise_cons.1 hl).1 b h2
     have := (List.pairwise_cons.1 hm).1 a h1
     omega
  subst hab
  rw [sortedZ_unique (List.Perm.cons_inv hp) (List.pairwise_cons.1 hl).2 (List.pairwise_cons.1 hm).2]
theorem sortZ_eq {l m : List Int} (hp : m.Perm l) (hs : m.Pairwise fun a b => a ≤ b) : m = sortZ l := sortedZ_unique (hp.trans (sortZ_perm l).symm) hs (sortZ_sorted l)
end Go.Proofs.Tryz
end

section
namespace Go.Proofs.Tryz
open Go Go.Vm Go.Sort
set_option maxRecDepth 20000
set_option maxHeartbeats 2000000
def exS : List Sg := [⟨1, 0, 0, -510, -500⟩, ⟨2, 30, 40, -480, -470⟩, ⟨3, 60, 80, -460, -450⟩, ⟨4, 900, 0, -900, -890⟩]
theorem ev_example : Ev Tryz.prog 19 [] (.sl 5 (exS.map sgD)) := by
 refine ev_of_awp tysOk mixed (fn := Tryz.f19) Tryz.func19 rfl rfl rfl ?_
 conv => whnf
 repeat' (first|((with_reducible first|refine Split.of_true ?_|refine Split.of_false ?_);conv=>whnf)|(with_reducible refine Split.neg ?_)|((with_reducible refine Split.is_true ?_ ?_);decide;conv=>whnf)|((with_reducible refine Split.is_false ?_ ?_);decide;conv=>whnf)|((with_reducible refine Split.nez (fun _=>?_) (fun _=>?_))<;>conv=>whnf)|((with_reducible refine Split.eqz (fun _=>?_) (fun _=>?_))<;>conv=>whnf)|(with_reducible refine Split.and ?_)|(with_reducible refine Split.or ?_)|((with_reducible refine Split.streq (fun _=>?_) (fun _=>?_))<;>conv=>whnf)|((with_reducible refine Split.dec (fun _=>?_) (fun _=>?_))<;>conv=>whnf)|((with_reducible refine Split.mk (fun _=>?_) (fun _=>?_))<;>conv=>whnf)|((with_reducible refine NilK.mk (fun _=>?_) ?_)<;>conv=>whnf)|((with_reducible refine AltK.l ?_);(conv=>whnf);(with_reducible refine Need.mk ?_ ?_);(first|omega|(refine ⟨?_,?_⟩<;>simp<;>omega)|(simp;omega));conv=>whnf)|((with_reducible refine Need.mk ?_ ?_);(first|omega|rfl|decide|(refine ⟨?_,?_⟩<;>simp<;>omega)|(simp;omega));conv=>whnf)|((with_reducible refine Wr.quo ?_ ?_ ?_ ?_);omega;omega;omega;conv=>whnf)|((with_reducible refine Wr.inr ?_ ?_);(first|omega|(simp;omega));conv=>whnf)|((with_reducible refine Wr.inu ?_ ?_);omega;conv=>whnf)|(exfalso;first|omega|contradiction)|fail)
 rfl
theorem exS_sorted : sortL cfThin exS = [⟨3, 60, 80, -460, -450⟩, ⟨2, 30, 40, -480, -470⟩, ⟨1, 0, 0, -510, -500⟩, ⟨4, 900, 0, -900, -890⟩] :=
 (sortL_eq swoThin (by decide) (by decide)).symm
theorem exS_thin : thinRes exS 50 = ([1, 3, 4], [(2, 3)], 0) := by
 have e1 : (thinO 50 (sortL cfThin exS)) = ([⟨3, 60, 80, -460, -450⟩, ⟨1, 0, 0, -510, -500⟩, ⟨4, 900, 0, -900, -890⟩], [(2, 3)]) := by rw [exS_sorted]; decide
 rw [thinRes, if_neg (by decide), if_neg (by decide), e1]
 have e2 : [1, 3, 4] = sortZ ([⟨3, 60, 80, -460, -450⟩, ⟨1, 0, 0, -510, -500⟩, ⟨4, 900, 0, -900, -890⟩].map Sg.n) := sortZ_eq (by decide) (by decide)
 have e3 : [((2 : Int), (3 : Int))] = sortL (fun a b => cmpI a.1 b.1) [(2, 3)] := sortL_eq ⟨fun x => by simp only [cmpI_neg, decide_eq_false_iff_not]; omega, fun x y z => by simp only [cmpI_neg, decide_eq_true_eq]; omega, fun x y z => by simp only [cmpI_neg, decide_eq_false_iff_not]; omega⟩ (.refl _) (by decide)
 rw [← e2, ← e3]
def pierS : Ga := ⟨⟨#[112, 105, 101, 114]⟩, 0, 5, [⟨0, 100⟩, ⟨20, 100⟩]⟩
def rawS : Rw := ⟨7, 10, 0, 0, 500, 40, 10⟩
theorem pier_red : rdE [pierS] rawS = (⟨7, 0, 0, -455, -425⟩, 0) := by decide
theorem ev_awake3 : Ev Tryz.prog 6 [] (.bool true) := by
 have h := ev_Reduce [pierS] rawS
 have h2 := ev_Thin exS 50
 rw [pier_red] at h
 rw [exS_thin] at h2
 refine ev_of_awp tysOk mixed (fn := Tryz.f6) Tryz.func6 rfl rfl rfl ?_
 conv => whnf
 repeat' (first|((refine PickE.mk _ rfl ?_);conv=>whnf)|((with_reducible first|refine Split.of_true ?_|refine Split.of_false ?_);conv=>whnf)|(with_reducible refine Split.neg ?_)|((with_reducible refine Split.is_true ?_ ?_);decide;conv=>whnf)|((with_reducible refine Split.is_false ?_ ?_);decide;conv=>whnf)|((with_reducible refine Split.nez (fun _=>?_) (fun _=>?_))<;>conv=>whnf)|((with_reducible refine Split.eqz (fun _=>?_) (fun _=>?_))<;>conv=>whnf)|(with_reducible refine Split.and ?_)|(with_reducible refine Split.or ?_)|((with_reducible refine Split.streq (fun _=>?_) (fun _=>?_))<;>conv=>whnf)|((with_reducible refine Split.dec (fun _=>?_) (fun _=>?_))<;>conv=>whnf)|((with_reducible refine Split.mk (fun _=>?_) (fun _=>?_))<;>conv=>whnf)|((with_reducible refine NilK.mk (fun _=>?_) ?_)<;>conv=>whnf)|((with_reducible refine AltK.l ?_);(conv=>whnf);(with_reducible refine Need.mk ?_ ?_);(first|omega|(refine ⟨?_,?_⟩<;>simp<;>omega)|(simp;omega));conv=>whnf)|((with_reducible refine Need.mk ?_ ?_);(first|omega|rfl|decide|(refine ⟨?_,?_⟩<;>simp<;>omega)|(simp;omega));conv=>whnf)|((with_reducible refine Wr.quo ?_ ?_ ?_ ?_);omega;omega;omega;conv=>whnf)|((with_reducible refine Wr.inr ?_ ?_);(first|omega|(simp;omega));conv=>whnf)|((with_reducible refine Wr.inu ?_ ?_);omega;conv=>whnf)|((with_reducible refine AltK.l ?_);(conv=>whnf);(first|(refine CallK.mk _ (h) ?_)|(refine CallK.mk _ (ev_example) ?_)|(refine CallK.mk _ (h2) ?_)|(refine CallK.mk _ (ev_Ints [1,3,4] [1,3,4] (by simp)) ?_));conv=>whnf)|(exfalso;first|omega|contradiction)|fail)
 rfl
end Go.Proofs.Tryz
end

section
namespace Go.Proofs.Tryz
open Go Go.Vm Go.Sort
set_option maxRecDepth 20000
set_option maxHeartbeats 4000000
/-! The law SoundingParts. -/
theorem chkGo_of {α : Type} {v : α → Bool} {num : α → Int} : ∀ (r o : List α), (∀ x ∈ r, v x = true) → (o ++ r).Pairwise (fun a b => num a ≠ num b) → chkGo v num o r = 0
 | [], _, _, _ => rfl
 | x :: r, o, h1, h2 => by
  rw [chkGo, if_neg (by rw [h1 x (by simp)]; decide)]
  have h3 : ¬ (o.any fun y => num y == num x) = true := by
   rw [List.any_eq_true]
   rintro ⟨y, hy, e⟩
   have := (List.pairwise_append.1 h2).2.2 y hy x (by simp)
   exact this (by simpa using e)
  rw [if_neg h3]
  exact chkGo_of r (o ++ [x]) (fun y hy => h1 y (by simp [hy])) (by simpa using h2)
theorem chk_of {α : Type} {v : α → Bool} {num : α → Int} {l : List α} (h1 : l.length ≤ 500) (h2 : ∀ x ∈ l, v x = true) (h3 : l.Pairwise fun a b => num a ≠ num b) : chkErr v num l = 0 := by
 rw [chkErr, if_neg (by omega)]; exact chkGo_of l [] h2 h3
structure ShOk (l : List Sg) : Prop where
 len : l.length ≤ 500
 all : ∀ x ∈ l, sgB x = true
 two : NoTwo l
theorem ShOk.of {l : List Sg} (h : chkErr sgB Sg.n l = 0) : ShOk l := by
 obtain ⟨h1, h2, h3⟩ := chk_zero h
 exact ⟨h1, h2, h3⟩
theorem ShOk.chk {l : List Sg} (h : ShOk l) : chkErr sgB Sg.n l = 0 := chk_of h.len h.all h.two
theorem ShOk.sub {l m : List Sg} (h : ShOk l) (hs : m.Sublist l) : ShOk m :=
 ⟨Nat.le_trans hs.length_le h.len, fun x hx => h.all x (hs.subset hx), h.two.sublist hs⟩
end Go.Proofs.Tryz
end
