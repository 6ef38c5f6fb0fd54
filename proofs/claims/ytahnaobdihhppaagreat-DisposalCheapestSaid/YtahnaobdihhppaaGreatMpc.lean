/- Texts DsB DrN DrJ DrO DsG DsI, joined; what is not needed is left out. -/
import Derived.Test.YtahnaobdihhppaaGreatMgI
import Derived.Test.YtahnaobdihhppaaGreatProg
import Derived.Test.YtahnaobdihhppaaGreatMgH
import Derived.Test.YtahnaobdihhppaaGreatMpb
section
namespace Go.Proofs.Tryz
open Go Go.Vm
set_option maxRecDepth 20000
set_option maxHeartbeats 8000000
def tkC (y : Yd) (l : List Bt) (vol room : List Int) (fl : List (List Int)) : List D :=
 [.sl 6 (y.pits.map ptD), .sl 3 (y.bulk.map bkD), .sl 3 (y.deps.map dpD), .sl 1 (y.carry.map iD), .sl 5 (l.map btD), .sl 1 (vol.map iD), .sl 1 (room.map iD), .sl 1 ((fl.map fun r => r.map iD).map (.sl 1))]
theorem ev_begin {y : Yd} {l : List Bt} (hs : smallP y) (hl : l.length ≤ 1000000) (h0 : lstE y l = 0) :
 Ev Tryz.prog 30 [ydD y, .sl 5 (l.map btD)] (.tup [.ref (tkC y l (volF y l) (roomF y) (flow0 y l)) 0, iD 0]) :=
 Ev.ofPtr (b := 9) (rest := [iD 0]) (xv_begin hs hl h0) rfl rfl (.unM (rs := (flow0 y l).map fun r => r.map iD) (by rw [List.map_map]; rfl) (.ok _ _))
section
variable {y : Yd} {l : List Bt} {vol room : List Int} {fl : List (List Int)}
theorem ev_batchOfD (n : Int) (hl : l.length ≤ 1000000) : Ev Tryz.prog 49 [.ref (tkC y l vol room fl) 0, iD n] (iD (atI l n)) := by
 have hw := ev_IndexBt l 83 [.ref [iD n] 0] (fun b => b.n == n) hl (fun b _ => ev_batchOf1 b n)
 unfold tkC
 refine ev_of_awp tysOk mixed (fn := Tryz.f49) Tryz.func49 rfl rfl rfl ?_
 conv => whnf
 repeat' (first|((with_reducible refine AltK.l ?_);(conv=>whnf);(first|(refine CallK.mk _ (hw) ?_));conv=>whnf)|fail)
 rfl
theorem ev_acceptsD {p b : Nat} (hp : p < y.pits.length) (hb : b < l.length) (hcl : ∀ p ∈ y.pits, p.cls.length ≤ 1000000) :
 Ev Tryz.prog 51 [.ref (tkC y l vol room fl) 0, iD p, iD b] (.bool (accF y l p b)) := by
 obtain ⟨q, hq⟩ := some_of_lt hp
 obtain ⟨x, hx⟩ := some_of_lt hb
 have hl1 : (y.pits.map ptD).length = y.pits.length := List.length_map _
 have hl2 : (l.map btD).length = l.length := List.length_map _
 have hc := ev_ContainsInt q.cls x.cls (hcl q (List.mem_of_getElem? hq))
 have el : accF y l p b = q.cls.any fun c => c == x.cls := by simp [accF, hq, hx, accB]
 rw [el]
 unfold tkC
 refine ev_of_awp tysOk mixed (fn := Tryz.f51) Tryz.func51 rfl rfl rfl ?_
 conv => whnf
 repeat' (first|((refine PickE.map b hx (by omega) ?_);conv=>whnf)|((refine PickE.map p hq (by omega) ?_);conv=>whnf)|((with_reducible refine Need.mk ?_ ?_);(first|omega|rfl|decide|(refine ⟨?_,?_⟩<;>simp<;>omega)|(simp;omega));conv=>whnf)|((with_reducible refine AltK.l ?_);(conv=>whnf);(first|(refine CallK.mk _ (hc) ?_));conv=>whnf)|fail)
 rfl
end
theorem ev_IndexIf (l : List Int) (f : Nat) (p : Int → Bool) (hn : l.length ≤ 1000000) (hf : ∀ g ∈ l, Ev Tryz.prog f [iD g] (.bool (p g))) :
 Ev Tryz.prog 102 [.sl 1 (l.map iD), .fn f []] (iD (ixI p l)) := by
 have hlen : (l.map iD).length = l.length := List.length_map _
 refine ev_of_awp tysOk mixed (fn := Tryz.f102) Tryz.func102 rfl rfl rfl ?_
 conv => whnf
 skip
 refine LoopK.o2 (fun i : Nat => i ≤ l.length ∧ ∀ g ∈ l.take i, p g = false) (fun i => [(8, .d (.int .i64 i))]) (fun _ => []) (fun i => l.length - i) 0 (by simp) (by refine ⟨?_, ?_, rfl⟩<;>(repeat' (first|exact True.intro|exact rfl|(refine ⟨?_,?_⟩)|fail));done) ?_
 rintro i ⟨hi, hp⟩
 by_cases hil : i < l.length
 ·obtain ⟨g, hg⟩ := some_of_lt hil
  have hc := hf g (List.mem_of_getElem? hg)
  cases hpg : p g with
  | true =>
   rw [hpg] at hc
   conv => whnf
   repeat' (first|((refine PickE.map i hg (by omega) ?_);conv=>whnf)|((with_reducible refine Split.of_true ?_);conv=>whnf)|((with_reducible refine Split.dec (fun _=>?_) (fun _=>?_))<;>conv=>whnf)|((with_reducible refine Need.mk ?_ ?_);(first|omega|rfl|decide|(refine ⟨?_,?_⟩<;>simp<;>omega)|(simp;omega));conv=>whnf)|((with_reducible refine AltK.l ?_);(conv=>whnf);(first|(refine CallK.mk _ (hc) ?_));conv=>whnf)|(exfalso;first|omega|contradiction)|fail)
   have e : l.findIdx? p = some i := by
    rw [List.findIdx?_eq_some_iff_getElem]
    refine ⟨by omega, by rw [(List.getElem?_eq_some_iff.1 hg).2]; exact hpg, fun j hj => ?_⟩
    have := hp l[j] (List.mem_take_iff_getElem.2 ⟨j, by omega, rfl⟩)
    rw [this]; decide
   rw [ixI, e]; rfl
  | false =>
   rw [hpg] at hc
   conv => whnf
   repeat' (first|((refine PickE.map i hg (by omega) ?_);conv=>whnf)|((with_reducible refine Split.of_false ?_);conv=>whnf)|((with_reducible refine Split.dec (fun _=>?_) (fun _=>?_))<;>conv=>whnf)|((with_reducible refine Need.mk ?_ ?_);(first|omega|rfl|decide|(refine ⟨?_,?_⟩<;>simp<;>omega)|(simp;omega));conv=>whnf)|((with_reducible refine Wr.inr ?_ ?_);(first|omega|(simp;omega));conv=>whnf)|((with_reducible refine AltK.l ?_);(conv=>whnf);(first|(refine CallK.mk _ (hc) ?_));conv=>whnf)|(exfalso;first|omega|contradiction)|fail)
   refine Again.au (i + 1) ⟨by omega, fun z hz => ?_⟩ (by omega) (by refine ⟨?_, ?_, rfl⟩<;>(repeat' (first|exact True.intro|exact rfl|(refine ⟨?_,?_⟩)|fail));done)
   rw [take_snoc hg] at hz
   rcases List.mem_append.1 hz with hz | hz
   ·exact hp z hz
   ·rw [List.mem_singleton.1 hz]; exact hpg
 ·have e : l.findIdx? p = none := by
   rw [List.findIdx?_eq_none_iff]
   intro z hz
   rw [← List.take_of_length_le (show l.length ≤ i by omega)] at hz
   exact hp z hz
  rw [ixI, e]
  conv => whnf
  repeat' (first|((with_reducible refine Split.dec (fun _=>?_) (fun _=>?_))<;>conv=>whnf)|((with_reducible refine Need.mk ?_ ?_);(first|omega|rfl|decide|(refine ⟨?_,?_⟩<;>simp<;>omega)|(simp;omega));conv=>whnf)|(exfalso;first|omega|contradiction)|fail)
  rfl
theorem ev_ContainsIf (l : List Int) (f : Nat) (p : Int → Bool) (hn : l.length ≤ 1000000) (hf : ∀ g ∈ l, Ev Tryz.prog f [iD g] (.bool (p g))) :
 Ev Tryz.prog 79 [.sl 1 (l.map iD), .fn f []] (.bool (l.any p)) := by
 have h := ev_IndexIf l f p hn hf
 rw [any_ix]
 generalize ixI p l = i at *
 refine ev_of_awp tysOk mixed (fn := Tryz.f79) Tryz.func79 rfl rfl rfl ?_
 conv => whnf
 repeat' (first|((with_reducible refine AltK.l ?_);(conv=>whnf);(first|(refine CallK.mk _ (h) ?_));conv=>whnf)|fail)
 simp only [retOf, D.bool.injEq, decide_eq_decide]; omega
theorem ev_assigned1 (v : Int) : Ev Tryz.prog 80 [iD v] (.bool (v != 0)) := by
 refine ev_of_awp tysOk mixed (fn := Tryz.f80) Tryz.func80 rfl rfl rfl ?_
 conv => whnf
 skip
 rfl
def prD (k : Int × Int) : D := .agg [iD k.1, iD k.2]
theorem asgGo_at {acc : Nat → Nat → Bool} {ib : Int → Int} {ip : ByteArray → Int} {v r : List Int} {sn : List (Int × Int)} {x : List Al} {i : Nat} {a : Al} (h : x[i]? = some a) : asgGo acc ib ip v r sn (x.drop i) =
 if ib a.n < 0 ∨ ip a.pit < 0 ∨ a.vol ≤ 0 then none
 else if acc (ip a.pit).toNat (ib a.n).toNat = false then none
 else if (ib a.n, ip a.pit) ∈ sn then none
 else if v.getD (ib a.n).toNat 0 < a.vol ∨ r.getD (ip a.pit).toNat 0 < a.vol then none
 else asgGo acc ib ip (v.set (ib a.n).toNat (v.getD (ib a.n).toNat 0 - a.vol)) (r.set (ip a.pit).toNat (r.getD (ip a.pit).toNat 0 - a.vol)) (sn ++ [(ib a.n, ip a.pit)]) (x.drop (i + 1)) := by
 rw [drop_of h, asgGo]
theorem ev_assigned {y : Yd} {l : List Bt} {vol room : List Int} {fl : List (List Int)} (h : TkOk y l vol room fl) (x : List Al) (hn : x.length ≤ 1000) :
 Ev Tryz.prog 46 [.ref (tkC y l vol room fl) 0, .sl 3 (x.map alD)] (.bool (asgB (accF y l) (atI l) (pitI y) vol room x)) := by
 have e1 := h.hv
 have e2 := h.hr
 have e3 := h.hL
 have e4 := h.hP
 have hlx : (x.map alD).length = x.length := List.length_map _
 have c1 : EvX Tryz.prog 63 [.d (.sl 1 (vol.map iD))] [] (.own 17 1 (vol.map iD).length) [(17, .row 3 1 (vol.map iD) false)] := EvX.new1 (xs := [.sl 1 (vol.map iD)]) (xv_clonedI vol (by omega)) 17
 have c2 : EvX Tryz.prog 63 [.d (.sl 1 (room.map iD))] [] (.own 22 1 (room.map iD).length) [(22, .row 3 1 (room.map iD) false)] := EvX.new1 (xs := [.sl 1 (room.map iD)]) (xv_clonedI room (by omega)) 22
 have hBt := fun n => ev_batchOfD (y := y) (l := l) (vol := vol) (room := room) (fl := fl) n (by omega)
 have hAc := fun (p b : Nat) (hp : p < y.pits.length) (hb : b < l.length) => ev_acceptsD (y := y) (l := l) (vol := vol) (room := room) (fl := fl) hp hb h.cl
 unfold tkC at hBt hAc ⊢
 have hres : ∀ r, asgGo (accF y l) (atI l) (pitI y) vol room [] x = r → asgB (accF y l) (atI l) (pitI y) vol room x = match r with
  | none => false
  | some v => !v.any fun z => z != 0 := fun r hr => by subst hr; rfl
 generalize asgB (accF y l) (atI l) (pitI y) vol room x = res at *
 refine ev_of_awp tysOk mixed (fn := Tryz.f46) Tryz.func46 rfl rfl rfl ?_
 conv => whnf
 repeat' (first|((with_reducible refine AltK.r ?_);(conv=>whnf);(first|(refine CallX.mk _ _ (c1) rfl ?_)|(refine CallX.mk _ _ (c2) rfl ?_));conv=>whnf)|fail)
 refine LoopK.o3 (fun z : Nat × List Int × List Int × List (Int × Int) => z.1 ≤ x.length ∧ asgGo (accF y l) (atI l) (pitI y) vol room [] x = asgGo (accF y l) (atI l) (pitI y) z.2.1 z.2.2.1 z.2.2.2 (x.drop z.1) ∧ z.2.1.length = l.length ∧ z.2.2.1.length = y.pits.length ∧ z.2.2.2.length = z.1 ∧ (∀ q ∈ z.2.1, 0 ≤ q ∧ q ≤ 100000000000000000) ∧ (∀ q ∈ z.2.2.1, 0 ≤ q ∧ q ≤ 100000000000000000))
  (fun z => [(25, .d (iD z.1)), (7, .own 200 2 (z.2.2.2.map prD).length)]) (fun z => [(17, .row 3 1 (z.2.1.map iD) false), (22, .row 3 1 (z.2.2.1.map iD) false), (200, .row 126 2 (z.2.2.2.map prD) false)]) (fun z => x.length - z.1)
  (0, vol, room, []) ⟨by omega, rfl, e1, e2, rfl, h.vb, h.rb⟩ (by refine ⟨?_, ?_, rfl⟩<;>(repeat' (first|exact True.intro|exact rfl|(refine ⟨?_,?_⟩)|(intro h;cases h;done)|fail));done) ?_
 rintro ⟨i, v, r, sn⟩ ⟨hi, hgo, hvl, hrl, hsl, hvb, hrb⟩
 dsimp only at hi hgo hvl hrl hsl hvb hrb ⊢
 have hvm : (v.map iD).length = v.length := List.length_map _
 have hrm : (r.map iD).length = r.length := List.length_map _
 have hsm : (sn.map prD).length = sn.length := List.length_map _
 by_cases hil : i < x.length
 ·obtain ⟨a, ha⟩ := some_of_lt hil
  have hxD : (x.map alD)[(i : Int).toNat]? = some (D.agg [iD a.n, .str a.pit, iD a.vol]) := by rw [Int.toNat_natCast, List.getElem?_map, ha]; rfl
  have w1 := hBt a.n
  have w2 := ev_pitOf y a.pit (by omega)
  rw [asgGo_at ha] at hgo
  have l1 : atI l a.n < l.length := ix_lt
  have l2 : pitI y a.pit < y.pits.length := ix_lt
  by_cases hc0 : atI l a.n < 0 ∨ pitI y a.pit < 0 ∨ a.vol ≤ 0
  ·rw [if_pos hc0] at hgo
   rw [hres _ hgo]
   clear hgo hres
   generalize atI l a.n = bi at *
   generalize pitI y a.pit = pi at *
   conv => whnf
   repeat' (first|((refine PickE.mk _ hxD ?_);conv=>whnf)|((with_reducible refine Split.of_true ?_);conv=>whnf)|((with_reducible refine Split.dec (fun _=>?_) (fun _=>?_))<;>conv=>whnf)|((with_reducible refine Need.mk ?_ ?_);(first|omega|rfl|decide|(refine ⟨?_,?_⟩<;>simp<;>omega)|(simp;omega));conv=>whnf)|((with_reducible refine AltK.l ?_);(conv=>whnf);(first|(refine CallK.mk _ (w1) ?_)|(refine CallK.mk _ (w2) ?_));conv=>whnf)|(exfalso;first|omega|contradiction)|fail)
   all_goals first
    | rfl
    |(exfalso; omega)
  rw [if_neg hc0] at hgo
  obtain ⟨b, hb⟩ : ∃ b : Nat, atI l a.n = b := ⟨(atI l a.n).toNat, by omega⟩
  obtain ⟨p, hp⟩ : ∃ p : Nat, pitI y a.pit = p := ⟨(pitI y a.pit).toNat, by omega⟩
  rw [hb, hp] at hgo hc0
  rw [hb] at w1 l1
  rw [hp] at w2 l2
  simp only [Int.toNat_natCast] at hgo
  clear hb hp
  have w3 := hAc p b (by omega) (by omega)
  cases hac : accF y l p b with
  | false =>
   rw [hac, if_pos rfl] at hgo
   rw [hac] at w3
   rw [hres _ hgo]
   clear hgo hres
   conv => whnf
   repeat' (first|((refine PickE.mk _ hxD ?_);conv=>whnf)|((with_reducible first|refine Split.of_true ?_|refine Split.of_false ?_);conv=>whnf)|(with_reducible refine Split.neg ?_)|((with_reducible refine Split.dec (fun _=>?_) (fun _=>?_))<;>conv=>whnf)|((with_reducible refine Need.mk ?_ ?_);(first|omega|rfl|decide|(refine ⟨?_,?_⟩<;>simp<;>omega)|(simp;omega));conv=>whnf)|((with_reducible refine AltK.l ?_);(conv=>whnf);(first|(refine CallK.mk _ (w1) ?_)|(refine CallK.mk _ (w2) ?_)|(refine CallK.mk _ (w3) ?_));conv=>whnf)|(exfalso;first|omega|contradiction)|fail)
   all_goals first
    | rfl
    |(exfalso; omega)
  | true =>
  rw [hac, if_neg (by decide)] at hgo
  rw [hac] at w3
  conv => whnf
  repeat' (first|((refine PickE.mk _ hxD ?_);conv=>whnf)|((with_reducible refine Split.of_true ?_);conv=>whnf)|(with_reducible refine Split.neg ?_)|((with_reducible refine Split.dec (fun _=>?_) (fun _=>?_))<;>conv=>whnf)|((with_reducible refine Need.mk ?_ ?_);(first|omega|rfl|decide|(refine ⟨?_,?_⟩<;>simp<;>omega)|(simp;omega));conv=>whnf)|((with_reducible refine AltK.l ?_);(conv=>whnf);(first|(refine CallK.mk _ (w1) ?_)|(refine CallK.mk _ (w2) ?_)|(refine CallK.mk _ (w3) ?_));conv=>whnf)|(exfalso;first|omega|contradiction)|fail)
  all_goals first
   |(exfalso; omega)
   | skip
  refine LoopK.o3 (fun j : Nat => j ≤ sn.length ∧ ∀ c ∈ sn.take j, c ≠ ((b : Int), (p : Int))) (fun j => [(65, .d (iD j))]) (fun _ => []) (fun j => sn.length - j) 0 ⟨by omega, by simp⟩ (by refine ⟨?_, ?_, rfl⟩<;>(repeat' (first|exact True.intro|exact rfl|(refine ⟨?_,?_⟩)|(intro h;cases h;done)|fail));done) ?_
  rintro j ⟨hj, hjn⟩
  by_cases hjl : j < sn.length
  ·obtain ⟨c, hc⟩ := some_of_lt hjl
   have hcD : (sn.map prD)[(j : Int).toNat]? = some (D.agg [iD c.1, iD c.2]) := by rw [Int.toNat_natCast, List.getElem?_map, hc]; rfl
   by_cases hce : c = ((b : Int), (p : Int))
   ·have hin : ((b : Int), (p : Int)) ∈ sn := by rw [← hce]; exact List.mem_of_getElem? hc
    rw [if_pos hin] at hgo
    rw [hres _ hgo]
    clear hgo hres
    subst hce
    conv => whnf
    repeat' (first|((refine PickE.mk _ hcD ?_);conv=>whnf)|((with_reducible refine Split.of_true ?_);conv=>whnf)|((with_reducible refine Split.eqz (fun _=>?_) (fun _=>?_))<;>conv=>whnf)|(with_reducible refine Split.and ?_)|((with_reducible refine Split.dec (fun _=>?_) (fun _=>?_))<;>conv=>whnf)|((with_reducible refine Need.mk ?_ ?_);(first|omega|rfl|decide|(refine ⟨?_,?_⟩<;>simp<;>omega)|(simp;omega));conv=>whnf)|((with_reducible refine Wr.inr ?_ ?_);(first|omega|(simp;omega));conv=>whnf)|(exfalso;first|omega|contradiction)|fail)
    all_goals first
     | rfl
     | contradiction
     |(exfalso; omega)
   ·conv => whnf
    repeat' (first|((refine PickE.mk _ hcD ?_);conv=>whnf)|((with_reducible refine Split.of_true ?_);conv=>whnf)|((with_reducible refine Split.eqz (fun _=>?_) (fun _=>?_))<;>conv=>whnf)|(with_reducible refine Split.and ?_)|((with_reducible refine Split.dec (fun _=>?_) (fun _=>?_))<;>conv=>whnf)|((with_reducible refine Need.mk ?_ ?_);(first|omega|rfl|decide|(refine ⟨?_,?_⟩<;>simp<;>omega)|(simp;omega));conv=>whnf)|((with_reducible refine Wr.inr ?_ ?_);(first|omega|(simp;omega));conv=>whnf)|(exfalso;first|omega|contradiction)|fail)
    all_goals first
     |(exfalso; exact hce (Prod.ext (by assumption) (by assumption)))
     | skip
    all_goals refine Again.av (j + 1) ⟨by omega, fun z hz => ?_⟩ (by omega) (by refine ⟨?_, ?_, rfl⟩<;>(repeat' (first|exact True.intro|exact rfl|(refine ⟨?_,?_⟩)|(intro h;cases h;done)|fail));done)
    all_goals
     rw [take_snoc hc] at hz
     rcases List.mem_append.1 hz with hz | hz
     ·exact hjn z hz
     ·rw [List.mem_singleton.1 hz]; exact hce
  ·have hje : j = sn.length := by omega
   subst hje
   rw [List.take_length] at hjn
   have hni : ((b : Int), (p : Int)) ∉ sn := fun h => hjn _ h rfl
   rw [if_neg hni] at hgo
   obtain ⟨vb, hvb1⟩ := some_of_lt (show b < v.length by omega)
   obtain ⟨rp, hrp1⟩ := some_of_lt (show p < r.length by omega)
   have k1 := hvb vb (List.mem_of_getElem? hvb1)
   have k2 := hrb rp (List.mem_of_getElem? hrp1)
   rw [show v.getD b 0 = vb by rw [List.getD, hvb1]; rfl, show r.getD p 0 = rp by rw [List.getD, hrp1]; rfl] at hgo
   by_cases hbig : vb < a.vol ∨ rp < a.vol
   ·rw [if_pos hbig] at hgo
    rw [hres _ hgo]
    clear hgo hres
    conv => whnf
    repeat' (first|((refine PickE.map p hrp1 (by omega) ?_);conv=>whnf)|((refine PickE.map b hvb1 (by omega) ?_);conv=>whnf)|((with_reducible refine Split.of_true ?_);conv=>whnf)|((with_reducible refine Split.dec (fun _=>?_) (fun _=>?_))<;>conv=>whnf)|((with_reducible refine Need.mk ?_ ?_);(first|omega|rfl|decide|(refine ⟨?_,?_⟩<;>simp<;>omega)|(simp;omega));conv=>whnf)|((with_reducible refine Wr.inr ?_ ?_);(first|omega|(simp;omega));conv=>whnf)|(exfalso;first|omega|contradiction)|fail)
    all_goals first
     | rfl
     |(exfalso; omega)
   ·rw [if_neg hbig] at hgo
    have hmp1 : sn.map prD ++ [D.agg [iD (b : Int), iD (p : Int)]] = (sn ++ [((b : Int), (p : Int))]).map prD := by simp [prD]
    have hmp2 : (v.map iD).set (b : Int).toNat (iD (vb - a.vol)) = (v.set b (vb - a.vol)).map iD := by rw [Int.toNat_natCast, List.map_set]
    have hmp3 : (r.map iD).set (p : Int).toNat (iD (rp - a.vol)) = (r.set p (rp - a.vol)).map iD := by rw [Int.toNat_natCast, List.map_set]
    conv => whnf
    repeat' (first|((refine PickE.map p hrp1 (by omega) ?_);conv=>whnf)|((refine PickE.map b hvb1 (by omega) ?_);conv=>whnf)|((with_reducible refine Split.of_true ?_);conv=>whnf)|((with_reducible refine Split.dec (fun _=>?_) (fun _=>?_))<;>conv=>whnf)|((with_reducible refine Need.mk ?_ ?_);(first|omega|rfl|decide|(refine ⟨?_,?_⟩<;>simp<;>omega)|(simp;omega));conv=>whnf)|((with_reducible refine Wr.inr ?_ ?_);(first|omega|(simp;omega));conv=>whnf)|(exfalso;first|omega|contradiction)|fail)
    all_goals first
     |(exfalso; omega)
     | skip
    refine Again.av (i + 1, v.set b (vb - a.vol), r.set p (rp - a.vol), sn ++ [((b : Int), (p : Int))]) ⟨by dsimp only;omega, hgo, by rw [List.length_set];exact hvl, by rw [List.length_set];exact hrl, by simp;omega, fun q hq => ?_, fun q hq => ?_⟩ (by dsimp only;omega) (by refine ⟨?_, ?_, rfl⟩<;>(repeat' (first|exact True.intro|exact rfl|(refine ⟨?_,?_⟩)|(intro h;cases h;done)|(refine own_congr ?_;simp;done)|exact hmp1|exact hmp2|exact hmp3|fail));done)
    ·rcases List.mem_or_eq_of_mem_set hq with h1 | h1
     ·exact hvb q h1
     ·omega
    ·rcases List.mem_or_eq_of_mem_set hq with h1 | h1
     ·exact hrb q h1
     ·omega
 ·rw [List.drop_eq_nil_of_le (show x.length ≤ i by omega), asgGo] at hgo
  rw [hres _ hgo]
  have w4 := ev_ContainsIf v 80 (fun z => z != 0) (by omega) (fun z _ => ev_assigned1 z)
  dsimp only
  conv => whnf
  repeat' (first|((with_reducible refine Split.dec (fun _=>?_) (fun _=>?_))<;>conv=>whnf)|((with_reducible refine Need.mk ?_ ?_);(first|omega|rfl|decide|(refine ⟨?_,?_⟩<;>simp<;>omega)|(simp;omega));conv=>whnf)|((with_reducible refine AltK.l ?_);(conv=>whnf);(first|(refine CallK.mk _ (w4) ?_));conv=>whnf)|(exfalso;first|omega|contradiction)|fail)
  all_goals first
   | rfl
   |(exfalso; omega)
end Go.Proofs.Tryz
end

section
namespace Go.Proofs.Tryz
open Go Go.Vm
set_option maxRecDepth 20000
section
variable {acc : Nat → Nat → Bool} {P L : Nat} {vol room : List Int} {fl : List (List Int)} {I : Nat → Bool}
def roomI (P : Nat) (room : List Int) (I : Nat → Bool) : List Int := (List.range P).map fun p => if I p = true then room.getD p 0 else 0
theorem roomI_at {p : Nat} (hp : p < P) : (roomI P room I).getD p 0 = if I p = true then room.getD p 0 else 0 := by
 rw [roomI, List.getD_eq_getElem?_getD, List.getElem?_map, List.getElem?_range hp]; rfl
def capW (acc : Nat → Nat → Bool) (P L : Nat) (vol room : List Int) (I A : Nat → Bool) : Int :=
 sumN L (fun b => if A b = true then 0 else vol.getD b 0) + sumN P fun p => if openB acc L A p = true ∧ I p = true then room.getD p 0 else 0
def usedS (P L : Nat) (fl : List (List Int)) : Int := sumN L fun b => sumN P (cellZ fl b)
theorem free_no (hd : Dim P L fl) {p : Nat} (hp : p < P) (hI : I p = false) (hz : ∀ b, b < L → cellZ fl b p = 0) : freeF (roomI P room I) fl p = 0 := by
 rw [free_sum hd, roomI_at hp, hI, if_neg (by decide), sumN_congr (g := fun _ => 0) (fun b hb => hz b hb), sumN_zero]; rfl
theorem free_in (hd : Dim P L fl) {p : Nat} (hp : p < P) (hI : I p = true) : freeF (roomI P room I) fl p = freeF room fl p := by
 rw [free_sum hd, free_sum hd, roomI_at hp, hI, if_pos rfl]
theorem fl_in (h : FlOk acc P L vol room fl) (hz : ∀ p, p < P → I p = false → ∀ b, b < L → cellZ fl b p = 0) : FlOk acc P L vol (roomI P room I) fl :=
 ⟨h.dim, h.nn, h.ac, h.lf, fun p hp => by
  cases hI : I p with
  | true => rw [free_in h.dim hp hI]; exact h.fr p hp
  | false => rw [free_no h.dim hp hI (hz p hp hI)]; exact Int.le_refl _⟩
theorem cap_eq {A : Nat → Bool} : capW acc P L vol room I A = sumN L (fun b => vol.getD b 0) - needS L vol A + haveS acc P L (roomI P room I) A := by
 have e1 : sumN L (fun b => if A b = true then 0 else vol.getD b 0) = sumN L (fun b => vol.getD b 0) - needS L vol A := by
  rw [needS, ← sumN_sub]
  exact sumN_congr fun b _ => by split <;> omega
 have e2 : haveS acc P L (roomI P room I) A = sumN P fun p => if openB acc L A p = true ∧ I p = true then room.getD p 0 else 0 := sumN_congr fun p hp => by
  rw [roomI_at hp]
  by_cases h1 : openB acc L A p = true <;> by_cases h2 : I p = true <;> simp [h1, h2]
 rw [capW, e1, e2]
theorem used_eq (hd : Dim P L fl) : usedS P L fl = sumN L (fun b => vol.getD b 0) - sumN L (fun b => leftF vol fl b) := by
 rw [usedS, ← sumN_sub]
 exact sumN_congr fun b hb => by rw [left_sum hd hb]; omega
theorem cap_weak (h : FlOk acc P L vol room fl) (hz : ∀ p, p < P → I p = false → ∀ b, b < L → cellZ fl b p = 0) (A : Nat → Bool) : usedS P L fl ≤ capW acc P L vol room I A := by
 have h1 := cut_weak (fl_in h hz) A
 have h2 : restS L vol fl A ≤ sumN L (fun b => leftF vol fl b) := sumN_le fun b hb => by
  have := h.lf b hb
  split <;> omega
 rw [cap_eq, used_eq (vol := vol) h.dim]; omega
theorem cap_strong (h : FlOk acc P L vol room fl) (hz : ∀ p, p < P → I p = false → ∀ b, b < L → cellZ fl b p = 0) (hs : ∀ p, p < P → I p = true → Shut acc P L vol room fl p) : ∃ A : Nat → Bool, capW acc P L vol room I A = usedS P L fl := by
 obtain ⟨w, -, hI, hX, hR⟩ := reach_ok (acc := acc) (P := P) (vol := vol) (fl := fl) (Nat.le_refl L)
 have h1 := cut_strong (fl_in h hz) (fun p hp => by
  cases hIp : I p with
  | true =>
   rcases hs p hp hIp with h1 | h1
   ·exact .inl h1
   ·exact .inr (by rw [free_in h.dim hp hIp]; exact h1)
  | false => exact .inr (free_no h.dim hp hIp (hz p hp hIp))) hI hX hR
 have h2 : restS L vol fl (hasN w.bs) = sumN L (fun b => leftF vol fl b) := sumN_congr fun b hb => by
  have := h.lf b hb
  by_cases h0 : 0 < leftF vol fl b
  ·rw [hI.start b hb h0, if_pos rfl]
  ·split <;> omega
 exact ⟨hasN w.bs, by rw [cap_eq, used_eq (vol := vol) h.dim]; omega⟩
theorem cap_congr {A A' : Nat → Bool} (h : ∀ b, b < L → A b = A' b) : capW acc P L vol room I A = capW acc P L vol room I A' := by
 have e : ∀ p, openB acc L A p = openB acc L A' p := fun p => by
  rw [openB, openB, Bool.eq_iff_iff, List.any_eq_true, List.any_eq_true]
  constructor <;> rintro ⟨b, hb, h'⟩ <;> refine ⟨b, hb, ?_⟩
  ·rw [← h b (List.mem_range.1 hb)]; exact h'
  ·rw [h b (List.mem_range.1 hb)]; exact h'
 rw [capW, capW, sumN_congr (g := fun b => if A' b = true then 0 else vol.getD b 0) (fun b hb => by rw [h b hb])]
 simp only [e]
theorem cap_nn {A : Nat → Bool} (hv : ∀ b, 0 ≤ vol.getD b 0) (hr : ∀ p, 0 ≤ room.getD p 0) : 0 ≤ capW acc P L vol room I A := by
 have h1 : 0 ≤ sumN L (fun b => if A b = true then 0 else vol.getD b 0) := sumN_nn fun b _ => by
  have := hv b
  split <;> omega
 have h2 : 0 ≤ sumN P (fun p => if openB acc L A p = true ∧ I p = true then room.getD p 0 else 0) := sumN_nn fun p _ => by
  have := hr p
  split <;> omega
 unfold capW; omega
def bestZ (f : Nat → Int) : Nat → Int
 | 0 => -1
 | n + 1 => if bestZ f n < 0 ∨ f n < bestZ f n then f n else bestZ f n
theorem bestZ_ok {f : Nat → Int} (hf : ∀ i, 0 ≤ f i) : ∀ n, (n = 0 ∧ bestZ f n = -1) ∨ ((∃ i, i < n ∧ bestZ f n = f i) ∧ ∀ i, i < n → bestZ f n ≤ f i)
 | 0 => .inl ⟨rfl, rfl⟩
 | n + 1 => by
  refine .inr ?_
  have h0 := hf n
  rcases bestZ_ok hf n with ⟨h1, h2⟩ | ⟨⟨i, hi, h1⟩, h2⟩
  ·subst h1
   rw [bestZ, if_pos (.inl (by omega))]
   exact ⟨⟨0, by omega, rfl⟩, fun i hi => by rw [show i = 0 by omega]; exact Int.le_refl _⟩
  ·have hi0 := hf i
   rw [bestZ]
   split
   ·rename_i hc
    refine ⟨⟨n, by omega, rfl⟩, fun j hj => ?_⟩
    by_cases e : j = n
    ·rw [e]; exact Int.le_refl _
    ·have := h2 j (by omega)
     omega
   ·rename_i hc
    refine ⟨⟨i, by omega, h1⟩, fun j hj => ?_⟩
    by_cases e : j = n
    ·rw [e]; omega
    ·exact h2 j (by omega)
theorem bits_of (A : Nat → Bool) : ∀ n, ∃ s, s < 2 ^ n ∧ ∀ b, b < n → A b = s.testBit b
 | 0 => ⟨0, by decide, fun b hb => absurd hb (by omega)⟩
 | n + 1 => by
  obtain ⟨s, h1, h2⟩ := bits_of A n
  have hp : 2 ^ (n + 1) = 2 ^ n + 2 ^ n := by rw [Nat.pow_succ]; omega
  cases hA : A n with
  | false =>
   refine ⟨s, by omega, fun b hb => ?_⟩
   by_cases e : b = n
   ·rw [e, hA, Nat.testBit_lt_two_pow h1]
   ·exact h2 b (by omega)
  | true =>
   refine ⟨2 ^ n + s, by omega, fun b hb => ?_⟩
   by_cases e : b = n
   ·rw [e, hA, Nat.testBit_two_pow_add_eq, Nat.testBit_lt_two_pow h1]; rfl
   ·rw [Nat.testBit_two_pow_add_gt (by omega)]
    exact h2 b (by omega)
def flowR (acc : Nat → Nat → Bool) (P L : Nat) (vol room : List Int) (I : Nat → Bool) : Int := bestZ (fun s => capW acc P L vol room I s.testBit) (2 ^ L)
theorem flow_used (h : FlOk acc P L vol room fl) (hz : ∀ p, p < P → I p = false → ∀ b, b < L → cellZ fl b p = 0) (hs : ∀ p, p < P → I p = true → Shut acc P L vol room fl p) (hv : ∀ b, 0 ≤ vol.getD b 0) (hr : ∀ p, 0 ≤ room.getD p 0) :
 flowR acc P L vol room I = usedS P L fl := by
 have hp := Nat.two_pow_pos L
 rcases bestZ_ok (f := fun s => capW acc P L vol room I s.testBit) (fun _ => cap_nn hv hr) (2 ^ L) with ⟨h1, -⟩ | ⟨⟨i, hi, e⟩, hmin⟩
 ·omega
 ·obtain ⟨A, hA⟩ := cap_strong h hz hs
  obtain ⟨s, hs', hb⟩ := bits_of A L
  have h1 := hmin s hs'
  rw [← cap_congr hb, hA] at h1
  have h2 := cap_weak h hz i.testBit
  rw [flowR]; omega
/-! Stage by stage. -/
theorem fillF_mono {n pit k : Nat} : ∀ {j : Nat} {fl f : List (List Int)}, k ≤ j → fillF acc P L n vol room pit k fl = some f → fillF acc P L n vol room pit j fl = some f := by
 induction k with
 | zero => intro j fl f _ h; rw [fillF] at h; cases h
 | succ k ih =>
  intro j fl f hj h
  obtain ⟨i, rfl⟩ : ∃ i, j = i + 1 := ⟨j - 1, by omega⟩
  rw [fillF] at h ⊢
  cases hp : pushF acc P L n vol room fl pit with
  | none => rw [hp] at h; cases h
  | some o =>
   rw [hp] at h
   cases o with
   | none => exact h
   | some f' => exact ih (by omega) h
theorem fillsF_mono {n k j : Nat} (hj : k ≤ j) : ∀ {s : List Nat} {fl f : List (List Int)}, fillsF acc P L n k vol room s fl = some f → fillsF acc P L n j vol room s fl = some f
 | [], fl, f, h => by rw [fillsF] at h ⊢; exact h
 | p :: s, fl, f, h => by
  rw [fillsF] at h ⊢
  cases hf : fillF acc P L n vol room p k fl with
  | none => rw [hf] at h; cases h
  | some g =>
   rw [hf] at h
   rw [fillF_mono hj hf]
   exact fillsF_mono hj h
theorem fillsF_app {n j : Nat} {s2 : List Nat} {f1 : List (List Int)} : ∀ {s1 : List Nat} {fl : List (List Int)}, fillsF acc P L n j vol room s1 fl = some f1 → fillsF acc P L n j vol room (s1 ++ s2) fl = fillsF acc P L n j vol room s2 f1
 | [], fl, h => by rw [fillsF] at h; cases h; rfl
 | p :: s1, fl, h => by
  rw [List.cons_append, fillsF]
  rw [fillsF] at h
  cases hf : fillF acc P L n vol room p j fl with
  | none => rw [hf] at h; cases h
  | some f => rw [hf] at h; exact fillsF_app h
theorem fills_split (hv : ∀ b, vol.getD b 0 ≤ 100000000000000000) {n : Nat} (hn : L ≤ n) (hnP : P ≤ n) {s1 s2 : List Nat} {fl' : List (List Int)} (hs : ∀ p ∈ s1 ++ s2, p < P) (h : FlOk acc P L vol room fl)
 (hk : ∃ k, ∀ j, k ≤ j → fillsF acc P L n j vol room (s1 ++ s2) fl = some fl') :
 ∃ f1, FlOk acc P L vol room f1 ∧ (∀ q ∈ s1, Shut acc P L vol room f1 q) ∧ (∀ q, q ∉ s1 → freeF room f1 q = freeF room fl q) ∧ ∀ q, q ∉ s2 → freeF room fl' q = freeF room f1 q := by
 obtain ⟨f1, ⟨k1, a1⟩, a2, a3, a4, -, -⟩ := fills_run hv hn hnP (s := s1) (fun p hp => hs p (List.mem_append_left _ hp)) h
 obtain ⟨f2, ⟨k2, b1⟩, -, -, b4, -, -⟩ := fills_run hv hn hnP (s := s2) (fun p hp => hs p (List.mem_append_right _ hp)) a2
 obtain ⟨k, hk⟩ := hk
 have e : f2 = fl' := by
  have h1 := hk (max k (max k1 k2)) (by omega)
  rw [fillsF_app (a1 _ (by omega)), b1 _ (by omega)] at h1
  exact Option.some.inj h1
 subst e
 exact ⟨f1, a2, fun q hq => a3 q (.inl hq), a4, b4⟩
theorem used_pits (hd : Dim P L fl) : usedS P L fl = sumN P fun p => room.getD p 0 - freeF room fl p := by
 rw [usedS, sumN_swap]
 exact sumN_congr fun p _ => by rw [free_sum hd]; omega
def nextZ (pr : Nat → Int) (I : Nat → Bool) : Nat → Int
 | 0 => -1
 | p + 1 => if I p = false ∧ (nextZ pr I p < 0 ∨ pr p < pr (nextZ pr I p).toNat) then p else nextZ pr I p
theorem nextZ_ok {pr : Nat → Int} : ∀ k, (nextZ pr I k = -1 ∧ ∀ q, q < k → I q = true) ∨ ∃ m : Nat, nextZ pr I k = m ∧ m < k ∧ I m = false ∧ ∀ q, q < k → I q = false → q = m ∨ leP pr m q
 | 0 => .inl ⟨rfl, fun q hq => absurd hq (by omega)⟩
 | k + 1 => by
  rcases nextZ_ok (pr := pr) k with ⟨h1, h2⟩ | ⟨m, h1, h2, h3, h4⟩
  ·cases hk : I k with
   | true =>
    refine .inl ⟨by rw [nextZ, if_neg (fun h => by rw [hk] at h; cases h.1)]; exact h1, fun q hq => ?_⟩
    by_cases e : q = k
    ·rw [e]; exact hk
    ·exact h2 q (by omega)
   | false =>
    refine .inr ⟨k, by rw [nextZ, if_pos ⟨hk, .inl (by omega)⟩], by omega, hk, fun q hq hq0 => ?_⟩
    by_cases e : q = k
    ·exact .inl e
    ·rw [h2 q (by omega)] at hq0; cases hq0
  ·by_cases hc : I k = false ∧ pr k < pr m
   ·refine .inr ⟨k, by rw [nextZ, if_pos ⟨hc.1, .inr (by rw [h1, Int.toNat_natCast]; exact hc.2)⟩], by omega, hc.1, fun q hq hq0 => ?_⟩
    by_cases e : q = k
    ·exact .inl e
    ·rcases h4 q (by omega) hq0 with rfl | h5
     ·exact .inr (.inl hc.2)
     ·unfold leP at *; omega
   ·refine .inr ⟨m, by rw [nextZ, if_neg (fun h => hc ⟨h.1, by have := h.2; rw [h1, Int.toNat_natCast] at this; omega⟩)]; exact h1, by omega, h3, fun q hq hq0 => ?_⟩
    by_cases e : q = k
    ·subst e
     have : ¬ pr q < pr m := fun h => hc ⟨hq0, h⟩
     unfold leP; omega
    ·exact h4 q (by omega) hq0
theorem next_is {pr : Nat → Int} {o : Nat} (ho : o < P) (h0 : I o = false) (h : ∀ q, q < P → I q = false → q = o ∨ leP pr o q) : nextZ pr I P = o := by
 rcases nextZ_ok (pr := pr) (I := I) P with ⟨-, h2⟩ | ⟨m, h1, h2, h3, h4⟩
 ·rw [h2 o ho] at h0; cases h0
 ·rw [h1]
  rcases h4 o ho h0 with e | h5
  ·rw [e]
  ·rcases h m h2 h3 with e | h6
   ·rw [e]
   ·unfold leP at *; omega
end
section
variable {y : Yd} {l : List Bt} {fl : List (List Int)}
def inI (y : Yd) (n : Nat) (p : Nat) : Bool := decide (p ∈ (ordF y).take n)
def fillZ (y : Yd) (fl : List (List Int)) (p : Nat) : Int := (roomF y).getD p 0 - freeF (roomF y) fl p
def flowN (y : Yd) (fl : List (List Int)) (n : Nat) : Int := (((ordF y).take n).map (fillZ y fl)).sum
def costN (y : Yd) (fl : List (List Int)) (n : Nat) : Int := (((ordF y).take n).map fun p => fillZ y fl p * priceF y p).sum
theorem ordF_pm : (ordF y).Perm (List.range y.pits.length) := (List.perm_ext_iff_of_nodup ordF_nodup List.nodup_range).2 fun p => by rw [ordF_mem, List.mem_range]
theorem ordF_len : (ordF y).length = y.pits.length := by rw [ordF_pm.length_eq, List.length_range]
theorem sum_perm {l m : List Int} (h : l.Perm m) : l.sum = m.sum := by
 induction h with
 | nil => rfl
 | cons x _ ih => rw [List.sum_cons, List.sum_cons, ih]
 | swap x z l => simp only [List.sum_cons]; omega
 | trans _ _ h1 h2 => rw [h1, h2]
theorem sum_range {f : Nat → Int} : ∀ n, ((List.range n).map f).sum = sumN n f
 | 0 => rfl
 | n + 1 => by rw [List.range_succ, List.map_append, List.sum_append, sum_range n, sumN]; simp
theorem ord_sum {f : Nat → Int} : ((ordF y).map f).sum = sumN y.pits.length f := by rw [sum_perm (ordF_pm.map f), sum_range]
theorem take_sum {f : Nat → Int} : ∀ {l : List Nat} {P : Nat}, l.Nodup → (∀ p ∈ l, p < P) → (l.map f).sum = sumN P fun p => if p ∈ l then f p else 0
 | [], P, _, _ => by rw [sumN_congr (g := fun _ => 0) (fun p _ => if_neg (by simp)), sumN_zero]; rfl
 | a :: l, P, h, hl => by
  rw [List.nodup_cons] at h
  have ih := take_sum (f := f) (l := l) (P := P) h.2 (fun p hp => hl p (List.mem_cons_of_mem _ hp))
  have e : sumN P (fun p => if p ∈ a :: l then f p else 0) = sumN P (fun p => (if p ∈ l then f p else 0) + if p = a then f a else 0) := sumN_congr fun p _ => by
   by_cases e1 : p = a
   ·subst e1; rw [if_pos List.mem_cons_self, if_neg h.1, if_pos rfl]; omega
   ·rw [if_neg e1]
    by_cases e2 : p ∈ l
    ·rw [if_pos e2, if_pos (List.mem_cons_of_mem _ e2)]; omega
    ·rw [if_neg e2, if_neg (by simp [e1, e2])]; rfl
  rw [List.map_cons, List.sum_cons, ih, e, sumN_add, sumN_hit, if_pos (hl a List.mem_cons_self)]; omega
theorem ord_at {n : Nat} (hn : n < y.pits.length) : ∃ o, (ordF y)[n]? = some o ∧ o < y.pits.length ∧ nextZ (priceF y) (inI y n) y.pits.length = o := by
 obtain ⟨o, ho⟩ := some_of_lt (show n < (ordF y).length by rw [ordF_len]; exact hn)
 have hol := ordF_mem.1 (List.mem_of_getElem? ho)
 refine ⟨o, ho, hol, next_is hol ?_ fun q hq hq0 => ?_⟩
 ·rw [inI, decide_eq_false_iff_not]
  intro hm
  obtain ⟨i, hi, e⟩ := List.mem_take_iff_getElem.1 hm
  obtain ⟨hn', e'⟩ := List.getElem?_eq_some_iff.1 ho
  have := (List.getElem_inj ordF_nodup).1 (e.trans e'.symm)
  omega
 ·rw [inI, decide_eq_false_iff_not] at hq0
  obtain ⟨i, hi⟩ := List.getElem?_of_mem (ordF_mem.2 hq)
  obtain ⟨hi', ei⟩ := List.getElem?_eq_some_iff.1 hi
  obtain ⟨hn', en⟩ := List.getElem?_eq_some_iff.1 ho
  have hin : n ≤ i := by
   refine Classical.byContradiction fun h => hq0 (List.mem_take_iff_getElem.2 ⟨i, by omega, ei⟩)
  by_cases e : i = n
  ·subst e; left; rw [← ei, ← en]
  ·right
   have := List.pairwise_iff_getElem.1 (ordF_asc (y := y)) n i hn' hi' (by omega)
   rwa [ei, en] at this
theorem inI_succ {n o : Nat} (h : (ordF y)[n]? = some o) (p : Nat) : inI y (n + 1) p = (inI y n p || p == o) := by
 rw [inI, inI, take_snoc h]
 by_cases e : p = o <;> simp [e]
theorem flowN_succ {n o : Nat} (h : (ordF y)[n]? = some o) : flowN y fl (n + 1) = flowN y fl n + fillZ y fl o := by
 rw [flowN, flowN, take_snoc h, List.map_append, List.sum_append]; simp
theorem costN_succ {n o : Nat} (h : (ordF y)[n]? = some o) : costN y fl (n + 1) = costN y fl n + fillZ y fl o * priceF y o := by
 rw [costN, costN, take_snoc h, List.map_append, List.sum_append]; simp
theorem lst_flow (h : LsOk y l) {k : Nat} (hk : fillsF (accF y l) y.pits.length l.length 20 k (volF y l) (roomF y) (ordF y) (flow0 y l) = some fl) (n : Nat) :
 flowR (accF y l) y.pits.length l.length (volF y l) (roomF y) (inI y n) = flowN y fl n := by
 have hy := yd_ok h.yd
 have hP := hy.pits
 have hL := h.len
 have hv : ∀ b, (volF y l).getD b 0 ≤ 100000000000000000 := fun b => by have := vol_bd h b; omega
 have hap : (ordF y).take n ++ (ordF y).drop n = ordF y := List.take_append_drop n _
 obtain ⟨f1, g1, g2, g3, g4⟩ := fills_split hv (n := 20) (by omega) (by omega) (s1 := (ordF y).take n) (s2 := (ordF y).drop n) (fun p hp => by rw [hap] at hp; exact ordF_mem.1 hp) (fl_flow0 h) ⟨k, fun j hj => by rw [hap]; exact fillsF_mono hj hk⟩
 have hz : ∀ p, p < y.pits.length → inI y n p = false → ∀ b, b < l.length → cellZ f1 b p = 0 := fun p _ hI => zero_of_free g1 (by
  rw [inI, decide_eq_false_iff_not] at hI
  rw [g3 p hI]; exact free_flow0)
 have hnd := ordF_nodup (y := y)
 rw [← hap, List.nodup_append] at hnd
 rw [flow_used g1 hz (fun p _ hI => g2 p (by simpa [inI] using hI)) (fun b => (vol_bd h b).1) (fun p => (room_bd hy p).1), used_pits (room := roomF y) g1.dim, flowN,
  take_sum (P := y.pits.length) hnd.1 (fun p hp => ordF_mem.1 (List.mem_of_mem_take hp))]
 refine sumN_congr fun p _ => ?_
 by_cases hm : p ∈ (ordF y).take n
 ·rw [if_pos hm, fillZ, g4 p (fun hd => hnd.2.2 p hm p hd rfl)]
 ·rw [if_neg hm, g3 p hm, free_flow0]; omega
theorem take_all {n : Nat} (hn : n = y.pits.length) : (ordF y).take n = ordF y := List.take_of_length_le (by rw [ordF_len]; omega)
theorem lst_done (hf : FlOk (accF y l) y.pits.length l.length (volF y l) (roomF y) fl) (hv : (volF y l).length = l.length) : (volF y l).sum = flowN y fl y.pits.length ↔ doneF l.length (volF y l) fl = true := by
 have e1 : flowN y fl y.pits.length = sumN l.length (fun b => (volF y l).getD b 0) - sumN l.length (fun b => leftF (volF y l) fl b) := by
  rw [flowN, take_all rfl, ord_sum, ← used_eq hf.dim, used_pits (room := roomF y) hf.dim]; rfl
 have e2 : (volF y l).sum = sumN l.length fun b => (volF y l).getD b 0 := by rw [sum_sumN, hv]
 have e3 := sumN_nn (f := leftF (volF y l) fl) (n := l.length) hf.lf
 rw [e1, e2, done_iff]
 have e4 : sumN l.length (fun b => leftF (volF y l) fl b) = sumN l.length (leftF (volF y l) fl) := rfl
 rw [e4]
 constructor
 ·intro h b hb
  have := sumN_one (f := leftF (volF y l) fl) (n := l.length) (i := b) hf.lf hb
  omega
 ·intro h
  have : sumN l.length (leftF (volF y l) fl) = 0 := (sumN_congr fun b hb => by
   have h1 := h b hb
   have h2 := hf.lf b hb
   show leftF (volF y l) fl b = 0
   omega).trans sumN_zero
  omega
theorem lst_cost (h : ydErr y = 0) (hf : FlOk (accF y l) y.pits.length l.length (volF y l) (roomF y) fl) : costN y fl y.pits.length = costF y (allF y l fl l.length) := by
 rw [costN, take_all rfl, ord_sum, cost_pits h hf.nn hf.dim (room := roomF y)]; rfl
end
end Go.Proofs.Tryz
end

section
namespace Go.Proofs.Tryz
open Go Go.Vm
set_option maxRecDepth 20000
structure Solved (y : Yd) (l : List Bt) (fl : List (List Int)) (t : Tf) : Prop where
 ok : FlOk (accF y l) y.pits.length l.length (volF y l) (roomF y) fl
 shut : ∀ p, p < y.pits.length → Shut (accF y l) y.pits.length l.length (volF y l) (roomF y) fl p
 ti : TfI (accF y l) y.pits.length l.length (roomF y) (priceF y) fl t
 bb : ∀ x ∈ t.bs, 0 ≤ x ∧ x ≤ 10000
 pb : ∀ x ∈ t.ps, 0 ≤ x ∧ x ≤ 10000
 tf : ∀ b, b < l.length → ∀ p, p < y.pits.length → TF (accF y l) (priceF y) fl t b p
theorem ev_CheapestRun {y : Yd} {l : List Bt} (hs : smallP y) (h0 : lstE y l = 0) : ∃ fl k t, fillsF (accF y l) y.pits.length l.length 20 k (volF y l) (roomF y) (ordF y) (flow0 y l) = some fl ∧ Solved y l fl t ∧
 Ev Tryz.prog 10 [ydD y, .sl 5 (l.map btD)] (.tup [frD (if doneF l.length (volF y l) fl = true then ⟨allF y l fl l.length, costF y (allF y l fl l.length), t⟩ else fr0), iD (if doneF l.length (volF y l) fl = true then 0 else 19)]) := by
 have hO := ls_ok h0
 obtain ⟨fl, k, h1, h2, h3, m, t, t1, t2, t3, t4, t5⟩ := cheap_run hO
 refine ⟨fl, k, t, h1, ⟨h2, h3, t2, t3, t4, t5⟩, ?_⟩
 cases hd : doneF l.length (volF y l) fl with
 | false =>
  rw [if_neg (by decide), if_neg (by decide)]
  exact ev_CheapestFull hs h0 (by decide) h1 hd
 | true =>
  rw [if_pos rfl, if_pos rfl]
  exact ev_CheapestOk hs h0 (by decide) h1 hd t1 (all_ok hO h2) (cost_bd hO h2)
end Go.Proofs.Tryz
end

section
namespace Go.Proofs.Tryz
open Go Go.Vm
set_option maxRecDepth 20000
theorem bk_ten {y : Yd} (h : ydErr y = 0) : ∀ f ∈ y.bulk, f.num ≤ 10 * f.den := by
 unfold ydErr at h
 split at h
 ·cases h
 split at h
 ·contradiction
 split at h
 ·cases h
 split at h
 ·contradiction
 rename_i h2
 have z2 := nmGo_zero (show nmGo Bk.soil bkErr [] y.bulk = 0 by simpa using h2)
 intro f hf
 have h := (z2 f hf).1
 unfold bkErr at h
 split at h
 ·cases h
 rename_i h1
 simp [outsideB] at h1
 omega
theorem volsGo_13 {y : Yd} (ht : ∀ f ∈ y.bulk, f.num ≤ 10 * f.den) : ∀ {l : List Bt} {c : List Int}, (∀ b ∈ l, ∃ k f z, Wok y b k f z) → CarOk y c → ∀ v ∈ volsGo y c l, v ≤ 10000000000000
 | [], _, _, _ => by simp [volsGo]
 | b :: r, c, h, hc => by
  obtain ⟨k, f, z0, hW⟩ := h b (by simp)
  obtain ⟨z, hz⟩ := some_of_lt (show k < c.length by rw [hc.len]; exact lt_of_some hW.fat)
  have hzb := hc.at_ k f z hW.fat hz
  have hden := hW.fo.den
  have hnum := hW.fo.num
  have hten := ht f (List.mem_of_getElem? hW.fat)
  have hbed := hW.bok.bed
  have hov := hW.bok.over
  have ek : (facI y b.soil).toNat = k := by rw [hW.ixk]; rfl
  have ef : bkAt y k = f := by rw [bkAt, List.getD, hW.fat]; rfl
  have ec : c.getD k 0 = z := by rw [List.getD, hz]; rfl
  have hcar := carN_bd (b := b) (f := f) (c := z) hW.bok hW.fo hzb
  have ih := volsGo_13 ht (l := r) (c := c.set k (carN b f z)) (fun x hx => h x (List.mem_cons_of_mem _ hx)) (hc.set hW.fat hcar)
  rw [volsGo, ek, ef, ec]
  intro v hv
  rcases List.mem_cons.1 hv with rfl | hv
  ·have h1 : (b.bed - b.over) * f.num ≤ 1000000000000 * (10 * f.den) := Int.mul_le_mul (by omega) (by omega) (by omega) (by decide)
   have h2 : ((b.bed - b.over) * f.num + z) / f.den < 10000000000001 := Int.ediv_lt_of_lt_mul (by omega) (by omega)
   unfold volN
   omega
  ·exact ih v hv
theorem vol_13 {y : Yd} {l : List Bt} (h : LsOk y l) (b : Nat) : (volF y l).getD b 0 ≤ 10000000000000 := by
 have hy := yd_ok h.yd
 have h1 := volsGo_13 (bk_ten h.yd) h.wok ⟨hy.carL, hy.car⟩
 have h2 := (volsGo_spec h.wok ⟨hy.carL, hy.car⟩).2
 exact (getD_bd9 (fun x hx => ⟨(h2 x hx).1, h1 x hx⟩) (by decide) b).2
theorem cost_swap {P L : Nat} {pr : Nat → Int} {fl : List (List Int)} {room : List Int} (hd : Dim P L fl) : costS P L pr fl = sumN P fun p => (room.getD p 0 - freeF room fl p) * pr p := by
 unfold costS
 rw [sumN_swap]
 refine sumN_congr fun p _ => ?_
 rw [sumN_mul, free_sum hd]
 congr 1
 omega
theorem costS_bd {y : Yd} {l : List Bt} {fl : List (List Int)} (h : LsOk y l) (hf : FlOk (accF y l) y.pits.length l.length (volF y l) (roomF y) fl) : costS y.pits.length l.length (priceF y) fl ≤ 9000000000000000000 := by
 have hy := yd_ok h.yd
 rw [cost_swap hf.dim (room := roomF y)]
 have := sumN_bd (f := fun p => ((roomF y).getD p 0 - freeF (roomF y) fl p) * priceF y p) (M := 400000000000000000) (n := y.pits.length) fun p hp => by
  have h1 := hf.fr p hp
  have h2 := room_bd hy p
  have h3 := priceF_bd hy p
  have h4 : 0 ≤ (roomF y).getD p 0 - freeF (roomF y) fl p := by
   rw [free_sum hf.dim]
   have := sumN_nn (f := fun b => cellZ fl b p) (n := l.length) fun b _ => hf.nn b p
   omega
  have := Int.mul_le_mul (show (roomF y).getD p 0 - freeF (roomF y) fl p ≤ 40000000000000 by omega) (show priceF y p ≤ 10000 by omega) (by omega) (by decide)
  omega
 have := hy.pits
 omega
theorem sumA_one {q : Al → Bool} : ∀ {x : List Al} {a : Al}, (∀ c ∈ x, 0 < c.vol) → a ∈ x → q a = true → a.vol ≤ sumA q x
 | [], _, _, h, _ => by cases h
 | c :: r, a, hp, h, hq => by
  rw [sumA_cons]
  have h1 := sumA_nn (q := q) (x := r) fun d hd => hp d (List.mem_cons_of_mem _ hd)
  have h2 := hp c List.mem_cons_self
  rcases List.mem_cons.1 h with rfl | h
  ·rw [if_pos hq]; omega
  ·have := sumA_one (fun d hd => hp d (List.mem_cons_of_mem _ hd)) h hq
   split <;> omega
theorem chr_bd {y : Yd} {l : List Bt} {x : List Al} (h : LsOk y l) (hc : Chr (accF y l) (atI l) (pitI y) y.pits.length l.length (fun b => (volF y l).getD b 0) (fun p => (roomF y).getD p 0) [] x) :
 (∀ a ∈ x, 0 ≤ pitI y a.pit ∧ 0 ≤ a.vol ∧ a.vol ≤ 100000000000000000) ∧ costF y x ≤ 9000000000000000000 := by
 refine ⟨fun a ha => ?_, ?_⟩
 ·have hv := hc.ok a ha
  have k1 := hv.b
  have k2 := hv.p
  have k3 := hv.v
  have l1 : atI l a.n < l.length := ix_lt
  have h1 := hc.sb (atI l a.n).toNat (by omega)
  have h2 := sumA_one (q := fun c => atI l c.n == ((atI l a.n).toNat : Int)) (fun c hc' => (hc.ok c hc').v) ha (by simp; omega)
  have h3 := vol_13 h (atI l a.n).toNat
  omega
 ·obtain ⟨fl, h1, -, h3⟩ := chr_flow hc
  rw [← h3]
  exact costS_bd h h1
/-! A tariff. -/
def inR (v : Int) : Bool := decide (0 ≤ v) && decide (v ≤ 20000)
theorem inR_iff {v : Int} : inR v = true ↔ 0 ≤ v ∧ v ≤ 20000 := by simp [inR]
section
variable {acc : Nat → Nat → Bool} {P L : Nat} {pr : Nat → Int} {bs ps : List Int}
def yldB (acc : Nat → Nat → Bool) (P L : Nat) (pr : Nat → Int) (bs ps : List Int) : Bool :=
 decide (bs.length = L) && decide (ps.length = P) && ps.all inR && bs.all inR && (List.range L).all fun b => (List.range P).all fun p => !acc p b || decide (bs.getD b 0 ≤ pr p + ps.getD p 0)
structure Yld (acc : Nat → Nat → Bool) (P L : Nat) (pr : Nat → Int) (bs ps : List Int) : Prop where
 bl : bs.length = L
 pl : ps.length = P
 pb : ∀ v ∈ ps, 0 ≤ v ∧ v ≤ 20000
 bb : ∀ v ∈ bs, 0 ≤ v ∧ v ≤ 20000
 ac : ∀ b, b < L → ∀ p, p < P → acc p b = true → bs.getD b 0 ≤ pr p + ps.getD p 0
theorem yld_iff : yldB acc P L pr bs ps = true ↔ Yld acc P L pr bs ps := by
 simp only [yldB, Bool.and_eq_true, decide_eq_true_eq, List.all_eq_true, inR_iff, List.mem_range, Bool.or_eq_true, Bool.not_eq_true']
 constructor
 ·rintro ⟨⟨⟨⟨h1, h2⟩, h3⟩, h4⟩, h5⟩
  refine ⟨h1, h2, h3, h4, fun b hb p hp ha => ?_⟩
  rcases h5 b hb p hp with h | h
  ·rw [ha] at h; cases h
  ·exact h
 ·intro h
  refine ⟨⟨⟨⟨h.bl, h.pl⟩, h.pb⟩, h.bb⟩, fun b hb p hp => ?_⟩
  cases ha : acc p b with
  | false => exact .inl rfl
  | true => exact .inr (h.ac b hb p hp ha)
theorem yld_no (h : ¬ Yld acc P L pr bs ps) : yldB acc P L pr bs ps = false := by
 rw [← yld_iff, Bool.not_eq_true] at h; exact h
end
def prvB (y : Yd) (l : List Bt) (f : Frt) : Bool :=
 asgB (accF y l) (atI l) (pitI y) (volF y l) (roomF y) f.xs && decide (costF y f.xs = f.cost) && yldB (accF y l) y.pits.length l.length (priceF y) f.tf.bs f.tf.ps && decide (yieldS y.pits.length l.length (volF y l) (roomF y) f.tf.bs f.tf.ps = f.cost)
theorem asg_ra {y : Yd} {l : List Bt} (h : LsOk y l) (x : List Al) : asgB (accF y l) (atI l) (pitI y) (volF y l) (roomF y) x = raB (accF y l) (atI l) (pitI y) y.pits.length (volF y l) (roomF y) x := by
 have hy := yd_ok h.yd
 have e1 : (volF y l).length = l.length := (volsGo_spec h.wok ⟨hy.carL, hy.car⟩).1
 have e2 : (roomF y).length = y.pits.length := by rw [roomF, List.length_map]
 rw [Bool.eq_iff_iff, asgB_chr (P := y.pits.length) (L := l.length) atI_ok.lt (fun s => pitI_lt s) e1 e2 (fun p _ => (room_bd hy p).1), raB_chr (L := l.length) at_inj atI_ok.lt (fun s => pitI_lt s) e1 e2]
theorem asg_chr9 {y : Yd} {l : List Bt} (h : LsOk y l) (x : List Al) : asgB (accF y l) (atI l) (pitI y) (volF y l) (roomF y) x = true ↔ Chr (accF y l) (atI l) (pitI y) y.pits.length l.length (fun b => (volF y l).getD b 0) (fun p => (roomF y).getD p 0) [] x := by
 have hy := yd_ok h.yd
 exact asgB_chr (P := y.pits.length) (L := l.length) atI_ok.lt (fun s => pitI_lt s) (volsGo_spec h.wok ⟨hy.carL, hy.car⟩).1 (by rw [roomF, List.length_map]) (fun p _ => (room_bd hy p).1) x
section
variable {y : Yd} {l : List Bt} {fl : List (List Int)} {t : Tf}
theorem left_done (h : FlOk (accF y l) y.pits.length l.length (volF y l) (roomF y) fl) (hd : doneF l.length (volF y l) fl = true) : ∀ b, b < l.length → leftF (volF y l) fl b = 0 := fun b hb => by
 have h1 := done_iff.1 hd b hb
 have h2 := h.lf b hb
 omega
theorem cost_all9 (h : LsOk y l) (hf : FlOk (accF y l) y.pits.length l.length (volF y l) (roomF y) fl) : costF y (allF y l fl l.length) = costS y.pits.length l.length (priceF y) fl := cost_all h.yd hf.nn l.length
theorem solved_yld (h : Solved y l fl t) : Yld (accF y l) y.pits.length l.length (priceF y) t.bs t.ps := ⟨h.ti.bl, h.ti.pl, fun v hv => by have := h.pb v hv; omega, fun v hv => by have := h.bb v hv; omega, fun b hb p hp ha => (h.tf b hb p hp ha).1⟩
theorem solved_cost (hO : LsOk y l) (h : Solved y l fl t) (hd : doneF l.length (volF y l) fl = true) : yieldS y.pits.length l.length (volF y l) (roomF y) t.bs t.ps = costF y (allF y l fl l.length) := by
 rw [cost_all9 hO h.ok]
 exact yield_strong h.ok (left_done h.ok hd) h.ti (fun p hp => by
  have := getD_bd9 (M := 10000) h.pb (by decide) p
  exact this.1) h.tf
theorem prv_own (hO : LsOk y l) (h : Solved y l fl t) (hd : doneF l.length (volF y l) fl = true) : prvB y l ⟨allF y l fl l.length, costF y (allF y l fl l.length), t⟩ = true := by
 simp only [prvB, Bool.and_eq_true, decide_eq_true_eq]
 exact ⟨⟨⟨(asg_chr9 hO _).2 (all_chr hO h.ok hd), trivial⟩, yld_iff.2 (solved_yld h)⟩, solved_cost hO h hd⟩
end
end Go.Proofs.Tryz
end

section
namespace Go.Proofs.Tryz
open Go Go.Vm
set_option maxRecDepth 20000
set_option maxHeartbeats 8000000
theorem xv_Volumes (y : Yd) (l : List Bt) (c : List Int) (hb : y.bulk.length ≤ 1000) (hl : l.length ≤ 100000) (hw : ∀ b ∈ l, ∃ k f z, Wok y b k f z) (hc : CarOk y c) :
 EvX Tryz.prog 40 [.d (ydD y), .d (.sl 5 (l.map btD)), .d (.sl 1 (c.map iD))] [] (.own 9 1 ((volsGo y c l).map iD).length) [(9, .row 3 1 ((volsGo y c l).map iD) false)] := by
 have hll : (l.map btD).length = l.length := List.length_map _
 have hcl := hc.len
 have hX := EvX.new1 (xs := [.sl 1 (c.map iD)]) (xv_CopyInts9 c (by omega)) 13
 generalize hV : volsGo y c l = V
 refine evx_of_awp tysOk mixed (fn := Tryz.f40) Tryz.func40 rfl rfl rfl ?_
 conv => whnf
 repeat' (first|((with_reducible refine AltK.r ?_);(conv=>whnf);(first|(refine CallX.mk _ _ (hX) rfl ?_));conv=>whnf)|fail)
 refine LoopK.o2 (fun x : Nat × List Int × List Int => x.1 ≤ l.length ∧ V = x.2.2 ++ volsGo y x.2.1 (l.drop x.1) ∧ x.2.2.length = x.1 ∧ CarOk y x.2.1) (fun x => [(8, .d (iD x.1)), (7, .own 200 1 (x.2.2.map iD).length)])
  (fun x => [(200, .row 3 1 (x.2.2.map iD) false), (13, .row 3 1 (x.2.1.map iD) false)]) (fun x => l.length - x.1) (0, c, []) ⟨by omega, hV.symm, rfl, hc⟩ (by refine ⟨?_, ?_, rfl⟩<;>(repeat' (first|exact True.intro|exact rfl|(refine ⟨?_,?_⟩)|(intro h;cases h;done)|fail));done) ?_
 rintro ⟨i, c', pre⟩ ⟨hi, hv, hpl, hc'⟩
 dsimp only at hi hv hpl hc' ⊢
 have hcl' := hc'.len
 have hpm : (pre.map iD).length = pre.length := List.length_map _
 have hcm : (c'.map iD).length = c'.length := List.length_map _
 by_cases hil : i < l.length
 ·obtain ⟨b, hbt⟩ := some_of_lt hil
  obtain ⟨k, f, z0, hW⟩ := hw b (List.mem_of_getElem? hbt)
  have hkl := lt_of_some hW.fat
  obtain ⟨z, hz⟩ := some_of_lt (show k < c'.length by rw [hcl']; exact hkl)
  have hzb := hc'.at_ k f z hW.fat hz
  have ek : (facI y b.soil).toNat = k := by rw [hW.ixk]; rfl
  have ef : bkAt y k = f := by rw [bkAt, List.getD, hW.fat]; rfl
  have ec : c'.getD k 0 = z := by rw [List.getD, hz]; rfl
  rw [drop_of hbt, volsGo, ek, ef, ec] at hv
  have hcar := carN_bd (b := b) (f := f) (c := z) hW.bok hW.fo hzb
  have w1 : Ev Tryz.prog 77 [.sl 3 (y.bulk.map bkD), .str b.soil] (iD (facI y b.soil)) := ev_Factor9 y.bulk b.soil (by omega)
  rw [hW.ixk] at w1
  have w2 := ev_Bulked9c hW hzb
  generalize volN b f z = v at *
  generalize carN b f z = cn at *
  have hmp1 : (c'.map iD).set (k : Int).toNat (iD cn) = (c'.set k cn).map iD := by rw [Int.toNat_natCast, List.map_set]
  conv => whnf
  repeat' (first|((refine PickE.map k hz (by omega) ?_);conv=>whnf)|((refine PickE.map i hbt (by omega) ?_);conv=>whnf)|((with_reducible refine Split.dec (fun _=>?_) (fun _=>?_))<;>conv=>whnf)|((with_reducible refine Need.mk ?_ ?_);(first|omega|rfl|decide|(refine ⟨?_,?_⟩<;>simp<;>omega)|(simp;omega));conv=>whnf)|((with_reducible refine Wr.inr ?_ ?_);(first|omega|(simp;omega));conv=>whnf)|((with_reducible refine AltK.l ?_);(conv=>whnf);(first|(refine CallK.mk _ (w1) ?_)|(refine CallK.mk _ (w2) ?_));conv=>whnf)|(exfalso;first|omega|contradiction)|fail)
  refine Again.au (i + 1, c'.set k cn, pre ++ [v]) ⟨by dsimp only; omega, by rw [hv]; simp, by simp only [List.length_append, List.length_singleton]; omega, hc'.set hW.fat hcar⟩ (by dsimp only; omega) ?_
  dsimp only
  exact (by refine ⟨?_, ?_, rfl⟩<;>(repeat' (first|exact True.intro|exact rfl|(refine ⟨?_,?_⟩)|(intro h;cases h;done)|exact map_snoc|(refine own_congr ?_;simp;done)|(simp;done)|fail));done)
 ·have hie : i = l.length := by omega
  subst hie
  rw [List.drop_length, volsGo, List.append_nil] at hv
  rw [hv]
  conv => whnf
  repeat' (first|((with_reducible refine Split.dec (fun _=>?_) (fun _=>?_))<;>conv=>whnf)|((with_reducible refine Need.mk ?_ ?_);(first|omega|rfl|decide|(refine ⟨?_,?_⟩<;>simp<;>omega)|(simp;omega));conv=>whnf)|(exfalso;first|omega|contradiction)|fail)
  exact ⟨⟨[(9, some 200)], (by refine ⟨?_, ?_, rfl⟩<;>(repeat' (first|exact True.intro|exact rfl|(refine ⟨?_,?_⟩)|(intro h;cases h;done)|fail));done)⟩, rfl⟩
theorem raGo_at {acc : Nat → Nat → Bool} {ib : Int → Int} {ip : ByteArray → Int} {v tk : List Int} {x : List Al} {i : Nat} {a : Al} (h : x[i]? = some a) : raGo acc ib ip v tk (x.take i) (x.drop i) =
 if ib a.n < 0 ∨ ip a.pit < 0 then none
 else if acc (ip a.pit).toNat (ib a.n).toNat = false then none
 else if a.vol < 1 ∨ v.getD (ib a.n).toNat 0 < a.vol then none
 else if (x.take i).any (fun x => x.n == a.n && sEq x.pit a.pit) = true then none
 else raGo acc ib ip (v.set (ib a.n).toNat (v.getD (ib a.n).toNat 0 - a.vol)) (tk.set (ip a.pit).toNat (tk.getD (ip a.pit).toNat 0 + a.vol)) (x.take (i + 1)) (x.drop (i + 1)) := by
 rw [drop_of h, raGo, take_snoc h]
theorem any_no9 {α : Type} {p : α → Bool} {l : List α} (h : ∀ c ∈ l, p c = false) : ¬ l.any p = true := by
 rw [Bool.not_eq_true, List.any_eq_false]
 intro c hc
 rw [h c hc]; decide
theorem ev_Assigned9 {y : Yd} {l : List Bt} (hO : LsOk y l) (hcl : ∀ p ∈ y.pits, p.cls.length ≤ 1000000) (x : List Al) (hn : x.length ≤ 200) :
 Ev Tryz.prog 24 [ydD y, .sl 5 (l.map btD), .sl 3 (x.map alD)] (.bool (raB (accF y l) (atI l) (pitI y) y.pits.length (volF y l) (roomF y) x)) := by
 have hy := yd_ok hO.yd
 have hlen := hO.len
 have hP8 := hy.pits
 have hb20 := hy.bulk
 have hlp : (y.pits.map ptD).length = y.pits.length := List.length_map _
 have hll : (l.map btD).length = l.length := List.length_map _
 have hlx : (x.map alD).length = x.length := List.length_map _
 have hV := EvX.new1 (xs := [ydD y, .sl 5 (l.map btD), .sl 1 (y.carry.map iD)]) (xv_Volumes y l y.carry (by omega) (by omega) hO.wok ⟨hy.carL, hy.car⟩) 19
 obtain ⟨hvl, hvb⟩ := volsGo_spec hO.wok ⟨hy.carL, hy.car⟩
 have hro : ∀ p, (h : p < y.pits.length) → Ev Tryz.prog 43 [ydD y, iD p] (iD ((roomF y).getD p 0)) := fun p h => by
  obtain ⟨q, hq⟩ := some_of_lt h
  have h1 := ev_Room9 y hq (hy.pit q (List.mem_of_getElem? hq)).1 hy.vol (by have := hy.deps; omega)
  have e : (roomF y).getD p 0 = roomS y q := by rw [roomF, List.getD, List.getElem?_map, hq]; rfl
  rw [e]; exact h1
 have hrb := room_bd hy
 rw [show volsGo y y.carry l = volF y l from rfl] at hV hvl hvb
 generalize volF y l = vol at *
 generalize roomF y = room at *
 have hvm : (vol.map iD).length = vol.length := List.length_map _
 have hres : ∀ r, raGo (accF y l) (atI l) (pitI y) vol (List.replicate y.pits.length 0) [] x = r → raB (accF y l) (atI l) (pitI y) y.pits.length vol room x = match r with
  | none => false
  | some r => (!r.1.any fun z => z != 0) && !(List.range y.pits.length).any fun p => decide (room.getD p 0 < r.2.getD p 0) := fun r hr => by subst hr; rfl
 generalize raB (accF y l) (atI l) (pitI y) y.pits.length vol room x = res at *
 have hrp0 : ∀ q ∈ List.replicate y.pits.length (0 : Int), 0 ≤ q ∧ q ≤ ((0 : Nat) : Int) * 10000000000001000 := fun q hq => by rw [(List.mem_replicate.1 hq).2]; simp
 have hmp0 : List.replicate ((y.pits.map ptD).length : Int).toNat (D.int .i64 0) = (List.replicate y.pits.length (0 : Int)).map iD := by rw [Int.toNat_natCast, List.length_map, List.map_replicate]; rfl
 refine ev_of_awp tysOk mixed (fn := Tryz.f24) Tryz.func24 rfl rfl rfl ?_
 conv => whnf
 repeat' (first|((with_reducible refine Need.mk ?_ ?_);(first|omega|rfl|decide|(refine ⟨?_,?_⟩<;>simp<;>omega)|(simp;omega));conv=>whnf)|((with_reducible refine AltK.r ?_);(conv=>whnf);(first|(refine CallX.mk _ _ (hV) rfl ?_));conv=>whnf)|fail)
 refine LoopK.o3 (fun z : Nat × List Int × List Int => z.1 ≤ x.length ∧ raGo (accF y l) (atI l) (pitI y) vol (List.replicate y.pits.length 0) [] x = raGo (accF y l) (atI l) (pitI y) z.2.1 z.2.2 (x.take z.1) (x.drop z.1) ∧ z.2.1.length = l.length ∧ z.2.2.length = y.pits.length ∧ (∀ q ∈ z.2.1, 0 ≤ q ∧ q ≤ 10000000000001000) ∧ (∀ q ∈ z.2.2, 0 ≤ q ∧ q ≤ (z.1 : Int) * 10000000000001000))
  (fun z => [(9, .d (iD z.1)), (7, .own 19 1 l.length), (8, .own 23 1 y.pits.length)]) (fun z => [(19, .row 3 1 (z.2.1.map iD) false), (23, .row 3 1 (z.2.2.map iD) false)]) (fun z => x.length - z.1)
  (0, vol, List.replicate y.pits.length 0) ⟨by omega, rfl, hvl, List.length_replicate .., hvb, hrp0⟩ (by refine ⟨?_, ?_, rfl⟩<;>(repeat' (first|exact True.intro|exact rfl|(refine ⟨?_,?_⟩)|(intro h;cases h;done)|(refine own_congr ?_;simp;done)|exact hmp0|((first|refine own_congr ?_|refine int_congr ?_|skip);simp [hvl];done)|fail));done) ?_
 clear hmp0 hrp0
 rintro ⟨i, v, tk⟩ ⟨hi, hgo, hvl', htl, hvb', htb⟩
 dsimp only at hi hgo hvl' htl hvb' htb ⊢
 have hvm' : (v.map iD).length = v.length := List.length_map _
 have htm : (tk.map iD).length = tk.length := List.length_map _
 by_cases hil : i < x.length
 ·obtain ⟨a, ha⟩ := some_of_lt hil
  have hxD : (x.map alD)[(i : Int).toNat]? = some (D.agg [iD a.n, .str a.pit, iD a.vol]) := by rw [Int.toNat_natCast, List.getElem?_map, ha]; rfl
  have w1 := ev_At9 l a.n (by omega)
  have w2 : Ev Tryz.prog 45 [.sl 6 (y.pits.map ptD), .str a.pit] (iD (pitI y a.pit)) := ev_Find9 y.pits a.pit (by omega)
  rw [raGo_at ha] at hgo
  have l1 : atI l a.n < l.length := ix_lt
  have l2 : pitI y a.pit < y.pits.length := ix_lt
  by_cases hc0 : atI l a.n < 0 ∨ pitI y a.pit < 0
  ·rw [if_pos hc0] at hgo
   rw [hres _ hgo]
   clear hgo hres
   generalize atI l a.n = bi at *
   generalize pitI y a.pit = pi at *
   conv => whnf
   repeat' (first|((refine PickE.mk _ hxD ?_);conv=>whnf)|((with_reducible refine Split.of_true ?_);conv=>whnf)|((with_reducible refine Split.dec (fun _=>?_) (fun _=>?_))<;>conv=>whnf)|((with_reducible refine Need.mk ?_ ?_);(first|omega|rfl|decide|(refine ⟨?_,?_⟩<;>simp<;>omega)|(simp;omega));conv=>whnf)|((with_reducible refine AltK.l ?_);(conv=>whnf);(first|(refine CallK.mk _ (w1) ?_)|(refine CallK.mk _ (w2) ?_));conv=>whnf)|(exfalso;first|omega|contradiction)|fail)
   all_goals first
    | rfl
    |(exfalso; omega)
  rw [if_neg hc0] at hgo
  obtain ⟨b, hb⟩ : ∃ b : Nat, atI l a.n = b := ⟨(atI l a.n).toNat, by omega⟩
  obtain ⟨p, hp⟩ : ∃ p : Nat, pitI y a.pit = p := ⟨(pitI y a.pit).toNat, by omega⟩
  rw [hb, hp] at hgo hc0
  rw [hb] at w1 l1
  rw [hp] at w2 l2
  simp only [Int.toNat_natCast] at hgo
  clear hb hp
  obtain ⟨q, hq⟩ := some_of_lt (show p < y.pits.length by omega)
  obtain ⟨bt, hbt⟩ := some_of_lt (show b < l.length by omega)
  have w3 := ev_Accepts9 q bt.cls (hcl q (List.mem_of_getElem? hq))
  have eA : accF y l p b = accB q bt.cls := by rw [accF, hq, hbt]
  rw [eA] at hgo
  obtain ⟨vb, hvb1⟩ := some_of_lt (show b < v.length by omega)
  obtain ⟨tp, htp1⟩ := some_of_lt (show p < tk.length by omega)
  have k1 := hvb' vb (List.mem_of_getElem? hvb1)
  have k2 := htb tp (List.mem_of_getElem? htp1)
  rw [show v.getD b 0 = vb by rw [List.getD, hvb1]; rfl, show tk.getD p 0 = tp by rw [List.getD, htp1]; rfl] at hgo
  cases hac : accB q bt.cls with
  | false =>
   rw [hac, if_pos rfl] at hgo
   rw [hac] at w3
   rw [hres _ hgo]
   clear hgo hres
   conv => whnf
   repeat' (first|((refine PickE.map b hbt (by omega) ?_);conv=>whnf)|((refine PickE.map p hq (by omega) ?_);conv=>whnf)|((refine PickE.mk _ hxD ?_);conv=>whnf)|((with_reducible first|refine Split.of_true ?_|refine Split.of_false ?_);conv=>whnf)|(with_reducible refine Split.neg ?_)|((with_reducible refine Split.dec (fun _=>?_) (fun _=>?_))<;>conv=>whnf)|((with_reducible refine Need.mk ?_ ?_);(first|omega|rfl|decide|(refine ⟨?_,?_⟩<;>simp<;>omega)|(simp;omega));conv=>whnf)|((with_reducible refine AltK.l ?_);(conv=>whnf);(first|(refine CallK.mk _ (w1) ?_)|(refine CallK.mk _ (w2) ?_)|(refine CallK.mk _ (w3) ?_));conv=>whnf)|(exfalso;first|omega|contradiction)|fail)
   all_goals first
    | rfl
    |(exfalso; omega)
  | true =>
  rw [hac, if_neg (by decide)] at hgo
  rw [hac] at w3
  by_cases hbig : a.vol < 1 ∨ vb < a.vol
  ·rw [if_pos hbig] at hgo
   rw [hres _ hgo]
   clear hgo hres
   conv => whnf
   repeat' (first|((refine PickE.map b hvb1 (by omega) ?_);conv=>whnf)|((refine PickE.map b hbt (by omega) ?_);conv=>whnf)|((refine PickE.map p hq (by omega) ?_);conv=>whnf)|((refine PickE.mk _ hxD ?_);conv=>whnf)|((with_reducible refine Split.of_true ?_);conv=>whnf)|(with_reducible refine Split.neg ?_)|((with_reducible refine Split.dec (fun _=>?_) (fun _=>?_))<;>conv=>whnf)|((with_reducible refine Need.mk ?_ ?_);(first|omega|rfl|decide|(refine ⟨?_,?_⟩<;>simp<;>omega)|(simp;omega));conv=>whnf)|((with_reducible refine AltK.l ?_);(conv=>whnf);(first|(refine CallK.mk _ (w1) ?_)|(refine CallK.mk _ (w2) ?_)|(refine CallK.mk _ (w3) ?_));conv=>whnf)|(exfalso;first|omega|contradiction)|fail)
   all_goals first
    | rfl
    |(exfalso; omega)
  rw [if_neg hbig] at hgo
  conv => whnf
  repeat' (first|((refine PickE.map b hvb1 (by omega) ?_);conv=>whnf)|((refine PickE.map b hbt (by omega) ?_);conv=>whnf)|((refine PickE.map p hq (by omega) ?_);conv=>whnf)|((refine PickE.mk _ hxD ?_);conv=>whnf)|((with_reducible refine Split.of_true ?_);conv=>whnf)|(with_reducible refine Split.neg ?_)|((with_reducible refine Split.dec (fun _=>?_) (fun _=>?_))<;>conv=>whnf)|((with_reducible refine Need.mk ?_ ?_);(first|omega|rfl|decide|(refine ⟨?_,?_⟩<;>simp<;>omega)|(simp;omega));conv=>whnf)|((with_reducible refine AltK.l ?_);(conv=>whnf);(first|(refine CallK.mk _ (w1) ?_)|(refine CallK.mk _ (w2) ?_)|(refine CallK.mk _ (w3) ?_));conv=>whnf)|(exfalso;first|omega|contradiction)|fail)
  all_goals first
   |(exfalso; omega)
   | skip
  refine LoopK.o3 (fun j : Nat => j ≤ i ∧ ∀ c ∈ x.take j, (c.n == a.n && sEq c.pit a.pit) = false) (fun j => [(12, .d (iD j))]) (fun _ => []) (fun j => i - j) 0 ⟨by omega, by simp⟩ (by refine ⟨?_, ?_, rfl⟩<;>(repeat' (first|exact True.intro|exact rfl|(refine ⟨?_,?_⟩)|(intro h;cases h;done)|fail));done) ?_
  rintro j ⟨hj, hjn⟩
  by_cases hjl : j < i
  ·obtain ⟨c, hc⟩ := some_of_lt (show j < x.length by omega)
   have hcD : (x.map alD)[(j : Int).toNat]? = some (D.agg [iD c.n, .str c.pit, iD c.vol]) := by rw [Int.toNat_natCast, List.getElem?_map, hc]; rfl
   have hcm : c ∈ x.take i := List.mem_take_iff_getElem.2 ⟨j, by omega, (List.getElem?_eq_some_iff.1 hc).2⟩
   by_cases hce : c.n = a.n ∧ c.pit = a.pit
   ·have hin : (x.take i).any (fun x => x.n == a.n && sEq x.pit a.pit) = true := List.any_eq_true.2 ⟨c, hcm, by rw [hce.1, hce.2, sEq_self]; simp⟩
    rw [if_pos hin] at hgo
    rw [hres _ hgo]
    clear hgo hres
    obtain ⟨h3, h4⟩ := hce
    conv => whnf
    repeat' (first|((refine PickE.mk _ hxD ?_);conv=>whnf)|((refine PickE.mk _ hcD ?_);conv=>whnf)|((with_reducible refine Split.of_false ?_);conv=>whnf)|((with_reducible refine Split.eqz (fun _=>?_) (fun _=>?_))<;>conv=>whnf)|((with_reducible refine Split.streq (fun _=>?_) (fun _=>?_))<;>conv=>whnf)|((with_reducible refine Split.dec (fun _=>?_) (fun _=>?_))<;>conv=>whnf)|((with_reducible refine Need.mk ?_ ?_);(first|omega|rfl|decide|(refine ⟨?_,?_⟩<;>simp<;>omega)|(simp;omega));conv=>whnf)|((with_reducible refine Wr.inr ?_ ?_);(first|omega|(simp;omega));conv=>whnf)|(exfalso;first|omega|contradiction)|fail)
    all_goals first
     | rfl
     | contradiction
     |(exfalso; omega)
   ·have hcf : (c.n == a.n && sEq c.pit a.pit) = false := by
     by_cases h3 : c.n = a.n
     ·rw [sEq_ne (fun h => hce ⟨h3, h⟩), Bool.and_false]
     ·rw [show (c.n == a.n) = false by simpa using h3, Bool.false_and]
    conv => whnf
    repeat' (first|((refine PickE.mk _ hxD ?_);conv=>whnf)|((refine PickE.mk _ hcD ?_);conv=>whnf)|((with_reducible refine Split.of_false ?_);conv=>whnf)|((with_reducible refine Split.eqz (fun _=>?_) (fun _=>?_))<;>conv=>whnf)|((with_reducible refine Split.streq (fun _=>?_) (fun _=>?_))<;>conv=>whnf)|((with_reducible refine Split.dec (fun _=>?_) (fun _=>?_))<;>conv=>whnf)|((with_reducible refine Need.mk ?_ ?_);(first|omega|rfl|decide|(refine ⟨?_,?_⟩<;>simp<;>omega)|(simp;omega));conv=>whnf)|((with_reducible refine Wr.inr ?_ ?_);(first|omega|(simp;omega));conv=>whnf)|(exfalso;first|omega|contradiction)|fail)
    all_goals first
     |(exfalso; exact hce ⟨by assumption, by assumption⟩)
     | skip
    all_goals refine Again.av (j + 1) ⟨by omega, fun z hz => ?_⟩ (by omega) (by refine ⟨?_, ?_, rfl⟩<;>(repeat' (first|exact True.intro|exact rfl|(refine ⟨?_,?_⟩)|(intro h;cases h;done)|fail));done)
    all_goals
     rw [take_snoc hc] at hz
     rcases List.mem_append.1 hz with hz | hz
     ·exact hjn z hz
     ·rw [List.mem_singleton.1 hz]; exact hcf
  ·have hje : j = i := by omega
   subst hje
   rw [if_neg (any_no9 hjn)] at hgo
   have hmp2 : (v.map iD).set (b : Int).toNat (iD (vb - a.vol)) = (v.set b (vb - a.vol)).map iD := by rw [Int.toNat_natCast, List.map_set]
   have hmp3 : (tk.map iD).set (p : Int).toNat (iD (tp + a.vol)) = (tk.set p (tp + a.vol)).map iD := by rw [Int.toNat_natCast, List.map_set]
   conv => whnf
   repeat' (first|((refine PickE.map p htp1 (by omega) ?_);conv=>whnf)|((refine PickE.map b hvb1 (by omega) ?_);conv=>whnf)|((refine PickE.mk _ hxD ?_);conv=>whnf)|((with_reducible refine Split.of_false ?_);conv=>whnf)|((with_reducible refine Split.eqz (fun _=>?_) (fun _=>?_))<;>conv=>whnf)|((with_reducible refine Split.streq (fun _=>?_) (fun _=>?_))<;>conv=>whnf)|((with_reducible refine Split.dec (fun _=>?_) (fun _=>?_))<;>conv=>whnf)|((with_reducible refine Need.mk ?_ ?_);(first|omega|rfl|decide|(refine ⟨?_,?_⟩<;>simp<;>omega)|(simp;omega));conv=>whnf)|((with_reducible refine Wr.inr ?_ ?_);(first|omega|(simp;omega));conv=>whnf)|(exfalso;first|omega|contradiction)|fail)
   all_goals first
    |(exfalso; omega)
    | skip
   refine Again.av (j + 1, v.set b (vb - a.vol), tk.set p (tp + a.vol)) ⟨by dsimp only;omega, hgo, by rw [List.length_set];exact hvl', by rw [List.length_set];exact htl, fun q hq => ?_, fun q hq => ?_⟩ (by dsimp only;omega) (by refine ⟨?_, ?_, rfl⟩<;>(repeat' (first|exact True.intro|exact rfl|(refine ⟨?_,?_⟩)|(intro h;cases h;done)|exact hmp2|exact hmp3|fail));done)
   ·rcases List.mem_or_eq_of_mem_set hq with h1 | h1
    ·exact hvb' q h1
    ·omega
   ·dsimp only
    rcases List.mem_or_eq_of_mem_set hq with h1 | h1
    ·have := htb q h1; omega
    ·omega
 ·rw [List.drop_eq_nil_of_le (show x.length ≤ i by omega), raGo] at hgo
  rw [hres _ hgo]
  clear hgo hres
  dsimp only
  conv => whnf
  repeat' (first|((with_reducible refine Split.dec (fun _=>?_) (fun _=>?_))<;>conv=>whnf)|((with_reducible refine Need.mk ?_ ?_);(first|omega|rfl|decide|(refine ⟨?_,?_⟩<;>simp<;>omega)|(simp;omega));conv=>whnf)|(exfalso;first|omega|contradiction)|fail)
  refine LoopK.o3 (fun j : Nat => j ≤ v.length ∧ ∀ c ∈ v.take j, (c != 0) = false) (fun j => [(13, .d (iD j))]) (fun _ => []) (fun j => v.length - j) 0 ⟨by omega, by simp⟩ (by refine ⟨?_, ?_, rfl⟩<;>(repeat' (first|exact True.intro|exact rfl|(refine ⟨?_,?_⟩)|(intro h;cases h;done)|fail));done) ?_
  rintro j ⟨hj, hjn⟩
  by_cases hjl : j < v.length
  ·obtain ⟨c, hc⟩ := some_of_lt hjl
   by_cases hc0 : c = 0
   ·subst hc0
    conv => whnf
    repeat' (first|((refine PickE.map j hc (by omega) ?_);conv=>whnf)|((with_reducible refine Split.is_false ?_ ?_);decide;conv=>whnf)|((with_reducible refine Split.dec (fun _=>?_) (fun _=>?_))<;>conv=>whnf)|((with_reducible refine Need.mk ?_ ?_);(first|omega|rfl|decide|(refine ⟨?_,?_⟩<;>simp<;>omega)|(simp;omega));conv=>whnf)|((with_reducible refine Wr.inr ?_ ?_);(first|omega|(simp;omega));conv=>whnf)|(exfalso;first|omega|contradiction)|fail)
    all_goals first
     |(exfalso; omega)
     | skip
    refine Again.av (j + 1) ⟨by omega, fun z hz => ?_⟩ (by omega) (by refine ⟨?_, ?_, rfl⟩<;>(repeat' (first|exact True.intro|exact rfl|(refine ⟨?_,?_⟩)|(intro h;cases h;done)|fail));done)
    rw [take_snoc hc] at hz
    rcases List.mem_append.1 hz with hz | hz
    ·exact hjn z hz
    ·rw [List.mem_singleton.1 hz]; rfl
   ·have : (v.any fun z => z != 0) = true := List.any_eq_true.2 ⟨c, List.mem_of_getElem? hc, by simpa using hc0⟩
    rw [this, Bool.not_true, Bool.false_and]
    conv => whnf
    repeat' (first|((refine PickE.map j hc (by omega) ?_);conv=>whnf)|((with_reducible refine Split.nez (fun _=>?_) (fun _=>?_))<;>conv=>whnf)|((with_reducible refine Split.dec (fun _=>?_) (fun _=>?_))<;>conv=>whnf)|((with_reducible refine Need.mk ?_ ?_);(first|omega|rfl|decide|(refine ⟨?_,?_⟩<;>simp<;>omega)|(simp;omega));conv=>whnf)|((with_reducible refine Wr.inr ?_ ?_);(first|omega|(simp;omega));conv=>whnf)|(exfalso;first|omega|contradiction)|fail)
    all_goals first
     | rfl
     |(exfalso; omega)
  ·rw [List.take_of_length_le (show v.length ≤ j by omega)] at hjn
   rw [show (v.any fun z => z != 0) = false from by simpa using any_no9 hjn, Bool.not_false, Bool.true_and]
   conv => whnf
   repeat' (first|((with_reducible refine Split.dec (fun _=>?_) (fun _=>?_))<;>conv=>whnf)|((with_reducible refine Need.mk ?_ ?_);(first|omega|rfl|decide|(refine ⟨?_,?_⟩<;>simp<;>omega)|(simp;omega));conv=>whnf)|(exfalso;first|omega|contradiction)|fail)
   refine LoopK.o3 (fun p : Nat => p ≤ y.pits.length ∧ ∀ c ∈ (List.range y.pits.length).take p, decide (room.getD c 0 < tk.getD c 0) = false) (fun j => [(14, .d (iD j))]) (fun _ => []) (fun j => y.pits.length - j) 0 ⟨by omega, by simp⟩ (by refine ⟨?_, ?_, rfl⟩<;>(repeat' (first|exact True.intro|exact rfl|(refine ⟨?_,?_⟩)|(intro h;cases h;done)|fail));done) ?_
   rintro p ⟨hp, hpn⟩
   by_cases hpl : p < y.pits.length
   ·obtain ⟨c, hc⟩ := some_of_lt (show p < tk.length by omega)
    have w5 := hro p hpl
    have hrp := hrb p
    have hcd : tk.getD p 0 = c := by rw [List.getD, hc]; rfl
    by_cases hb : room.getD p 0 < c
    ·have : ((List.range y.pits.length).any fun p => decide (room.getD p 0 < tk.getD p 0)) = true := List.any_eq_true.2 ⟨p, List.mem_range.2 hpl, by rw [hcd]; simpa using hb⟩
     rw [this]
     generalize room.getD p 0 = rp at *
     conv => whnf
     repeat' (first|((refine PickE.map p hc (by omega) ?_);conv=>whnf)|((with_reducible refine Split.dec (fun _=>?_) (fun _=>?_))<;>conv=>whnf)|((with_reducible refine Need.mk ?_ ?_);(first|omega|rfl|decide|(refine ⟨?_,?_⟩<;>simp<;>omega)|(simp;omega));conv=>whnf)|((with_reducible refine Wr.inr ?_ ?_);(first|omega|(simp;omega));conv=>whnf)|((with_reducible refine AltK.l ?_);(conv=>whnf);(first|(refine CallK.mk _ (w5) ?_));conv=>whnf)|(exfalso;first|omega|contradiction)|fail)
     all_goals first
      | rfl
      |(exfalso; omega)
    ·have hnb : decide (room.getD p 0 < tk.getD p 0) = false := by rw [hcd]; simpa using hb
     have hpr : (List.range y.pits.length)[p]? = some p := List.getElem?_range hpl
     have hsn := take_snoc hpr
     generalize hrpe : room.getD p 0 = rp at *
     conv => whnf
     repeat' (first|((refine PickE.map p hc (by omega) ?_);conv=>whnf)|((with_reducible refine Split.dec (fun _=>?_) (fun _=>?_))<;>conv=>whnf)|((with_reducible refine Need.mk ?_ ?_);(first|omega|rfl|decide|(refine ⟨?_,?_⟩<;>simp<;>omega)|(simp;omega));conv=>whnf)|((with_reducible refine Wr.inr ?_ ?_);(first|omega|(simp;omega));conv=>whnf)|((with_reducible refine AltK.l ?_);(conv=>whnf);(first|(refine CallK.mk _ (w5) ?_));conv=>whnf)|(exfalso;first|omega|contradiction)|fail)
     all_goals first
      |(exfalso; omega)
      | skip
     refine Again.av (p + 1) ⟨by omega, fun z hz => ?_⟩ (by omega) (by refine ⟨?_, ?_, rfl⟩<;>(repeat' (first|exact True.intro|exact rfl|(refine ⟨?_,?_⟩)|(intro h;cases h;done)|fail));done)
     rw [hsn] at hz
     rcases List.mem_append.1 hz with hz | hz
     ·exact hpn z hz
     ·rw [List.mem_singleton.1 hz, hrpe]; exact hnb
   ·rw [List.take_of_length_le (show (List.range y.pits.length).length ≤ p by rw [List.length_range]; omega)] at hpn
    rw [show ((List.range y.pits.length).any fun p => decide (room.getD p 0 < tk.getD p 0)) = false from by simpa only [Bool.not_eq_true] using any_no9 hpn]
    conv => whnf
    repeat' (first|((with_reducible refine Split.dec (fun _=>?_) (fun _=>?_))<;>conv=>whnf)|((with_reducible refine Need.mk ?_ ?_);(first|omega|rfl|decide|(refine ⟨?_,?_⟩<;>simp<;>omega)|(simp;omega));conv=>whnf)|(exfalso;first|omega|contradiction)|fail)
    rfl
theorem ev_Cost9 {y : Yd} (hP : y.pits.length ≤ 1000000) (xs : List Al) (hn : xs.length ≤ 1000) (hx : ∀ a ∈ xs, 0 ≤ pitI y a.pit ∧ 0 ≤ a.vol ∧ a.vol ≤ 100000000000000000) (hp : ∀ p ∈ y.pits, 0 ≤ p.price ∧ p.price ≤ 10000) (hT : costF y xs ≤ 9000000000000000000) :
 Ev Tryz.prog 39 [ydD y, .sl 3 (xs.map alD)] (iD (costF y xs)) := by
 have hlp : (y.pits.map ptD).length = y.pits.length := List.length_map _
 have hlx : (xs.map alD).length = xs.length := List.length_map _
 have h0 : costF y (xs.take 0) = 0 := rfl
 refine ev_of_awp tysOk mixed (fn := Tryz.f39) Tryz.func39 rfl rfl rfl ?_
 conv => whnf
 skip
 refine LoopK.o3 (fun i : Nat => i ≤ xs.length) (fun i => [(5, .d (iD (costF y (xs.take i)))), (6, .d (iD i))]) (fun _ => []) (fun i => xs.length - i) 0 (by omega) (by refine ⟨?_, ?_, rfl⟩<;>(repeat' (first|exact True.intro|exact rfl|(refine ⟨?_,?_⟩)|(intro h;cases h;done)|fail));done) ?_
 rintro i hi
 dsimp only at hi ⊢
 by_cases hil : i < xs.length
 ·obtain ⟨a, ha⟩ := some_of_lt hil
  obtain ⟨a1, a2, a3⟩ := hx a (List.mem_of_getElem? ha)
  obtain ⟨j, q, hj, hq, -⟩ := ix_at (show ¬ ixI (fun p => sEq p.name a.pit) y.pits < 0 by have : 0 ≤ ixI (fun p => sEq p.name a.pit) y.pits := a1; omega)
  have hw : Ev Tryz.prog 45 [.sl 6 (y.pits.map ptD), .str a.pit] (iD (pitI y a.pit)) := ev_Find9 y.pits a.pit (by omega)
  have hj : pitI y a.pit = j := hj
  rw [hj] at hw
  have hqp := hp q (List.mem_of_getElem? hq)
  have hpr : prA y a = a.vol * q.price := by rw [prA, hj, Int.toNat_natCast, priceF, hq]
  have hst : costF y (xs.take (i + 1)) = costF y (xs.take i) + a.vol * q.price := by rw [List.take_add_one, ha, ← hpr]; simp [costF]
  have hle := cost_le (y := y) (xs := xs) (fun a ha => ⟨(hx a ha).2.1, (hx a ha).1⟩) (fun p hp' => (hp p hp').1) (i + 1)
  have hge := cost_nn (y := y) (xs := xs) (fun a ha => ⟨(hx a ha).2.1, (hx a ha).1⟩) (fun p hp' => (hp p hp').1) i
  have hmul : 0 ≤ a.vol * q.price := Int.mul_nonneg a2 hqp.1
  have hxD : (xs.map alD)[(i : Int).toNat]? = some (D.agg [iD a.n, .str a.pit, iD a.vol]) := by rw [Int.toNat_natCast, List.getElem?_map, ha]; rfl
  rw [hst] at hle
  generalize costF y (xs.take i) = c at *
  conv => whnf
  repeat' (first|((refine PickE.map j hq (by omega) ?_);conv=>whnf)|((refine PickE.mk _ hxD ?_);conv=>whnf)|((with_reducible refine Split.dec (fun _=>?_) (fun _=>?_))<;>conv=>whnf)|((with_reducible refine Need.mk ?_ ?_);(first|omega|rfl|decide|(refine ⟨?_,?_⟩<;>simp<;>omega)|(simp;omega));conv=>whnf)|((with_reducible refine Wr.inr ?_ ?_);(first|omega|(simp;omega));conv=>whnf)|((with_reducible refine AltK.l ?_);(conv=>whnf);(first|(refine CallK.mk _ (hw) ?_));conv=>whnf)|(exfalso;first|omega|contradiction)|fail)
  refine Again.av (i + 1) (by omega) (by omega) ?_
  rw [hst]
  exact (by refine ⟨?_, ?_, rfl⟩<;>(repeat' (first|exact True.intro|exact rfl|(refine ⟨?_,?_⟩)|(intro h;cases h;done)|fail));done)
 ·have hie : i = xs.length := by omega
  subst hie
  rw [List.take_length]
  conv => whnf
  repeat' (first|((with_reducible refine Split.dec (fun _=>?_) (fun _=>?_))<;>conv=>whnf)|((with_reducible refine Need.mk ?_ ?_);(first|omega|rfl|decide|(refine ⟨?_,?_⟩<;>simp<;>omega)|(simp;omega));conv=>whnf)|(exfalso;first|omega|contradiction)|fail)
  rfl
end Go.Proofs.Tryz
end

section
namespace Go.Proofs.Tryz
open Go Go.Vm
set_option maxRecDepth 20000
set_option maxHeartbeats 8000000
theorem ev_priceD {y : Yd} {l : List Bt} {vol room : List Int} {fl : List (List Int)} (hP : y.pits.length ≤ 1000000) (xs : List Al) (hn : xs.length ≤ 1000) (hx : ∀ a ∈ xs, 0 ≤ pitI y a.pit ∧ 0 ≤ a.vol ∧ a.vol ≤ 100000000000000000) (hp : ∀ p ∈ y.pits, 0 ≤ p.price ∧ p.price ≤ 10000) (hT : costF y xs ≤ 9000000000000000000) :
 Ev Tryz.prog 33 [.ref (tkC y l vol room fl) 0, .sl 3 (xs.map alD)] (iD (costF y xs)) := by
 have hlp : (y.pits.map ptD).length = y.pits.length := List.length_map _
 have hlx : (xs.map alD).length = xs.length := List.length_map _
 have h0 : costF y (xs.take 0) = 0 := rfl
 unfold tkC
 refine ev_of_awp tysOk mixed (fn := Tryz.f33) Tryz.func33 rfl rfl rfl ?_
 conv => whnf
 skip
 refine LoopK.o3 (fun i : Nat => i ≤ xs.length) (fun i => [(5, .d (iD (costF y (xs.take i)))), (10, .d (iD i))]) (fun _ => []) (fun i => xs.length - i) 0 (by omega) (by refine ⟨?_, ?_, rfl⟩<;>(repeat' (first|exact True.intro|exact rfl|(refine ⟨?_,?_⟩)|fail));done) ?_
 rintro i hi
 dsimp only at hi ⊢
 by_cases hil : i < xs.length
 ·obtain ⟨a, ha⟩ := some_of_lt hil
  obtain ⟨a1, a2, a3⟩ := hx a (List.mem_of_getElem? ha)
  obtain ⟨j, q, hj, hq, -⟩ := ix_at (show ¬ ixI (fun p => sEq p.name a.pit) y.pits < 0 by have : 0 ≤ ixI (fun p => sEq p.name a.pit) y.pits := a1; omega)
  have hw := ev_pitOf y a.pit (by omega)
  have hj : pitI y a.pit = j := hj
  rw [hj] at hw
  have hqp := hp q (List.mem_of_getElem? hq)
  have hpr : prA y a = a.vol * q.price := by rw [prA, hj, Int.toNat_natCast, priceF, hq]
  have hst : costF y (xs.take (i + 1)) = costF y (xs.take i) + a.vol * q.price := by rw [List.take_add_one, ha, ← hpr]; simp [costF]
  have hle := cost_le (y := y) (xs := xs) (fun a ha => ⟨(hx a ha).2.1, (hx a ha).1⟩) (fun p hp' => (hp p hp').1) (i + 1)
  have hge := cost_nn (y := y) (xs := xs) (fun a ha => ⟨(hx a ha).2.1, (hx a ha).1⟩) (fun p hp' => (hp p hp').1) i
  have hmul : 0 ≤ a.vol * q.price := Int.mul_nonneg a2 hqp.1
  have hxD : (xs.map alD)[(i : Int).toNat]? = some (D.agg [iD a.n, .str a.pit, iD a.vol]) := by rw [Int.toNat_natCast, List.getElem?_map, ha]; rfl
  rw [hst] at hle
  generalize costF y (xs.take i) = c at *
  conv => whnf
  repeat' (first|((refine PickE.map j hq (by omega) ?_);conv=>whnf)|((refine PickE.mk _ hxD ?_);conv=>whnf)|((with_reducible refine Split.dec (fun _=>?_) (fun _=>?_))<;>conv=>whnf)|((with_reducible refine Need.mk ?_ ?_);(first|omega|rfl|decide|(refine ⟨?_,?_⟩<;>simp<;>omega)|(simp;omega));conv=>whnf)|((with_reducible refine Wr.inr ?_ ?_);(first|omega|(simp;omega));conv=>whnf)|((with_reducible refine AltK.l ?_);(conv=>whnf);(first|(refine CallK.mk _ (hw) ?_));conv=>whnf)|(exfalso;first|omega|contradiction)|fail)
  refine Again.av (i + 1) (by omega) (by omega) ?_
  rw [hst]
  exact (by refine ⟨?_, ?_, rfl⟩<;>(repeat' (first|exact True.intro|exact rfl|(refine ⟨?_,?_⟩)|fail));done)
 ·have hie : i = xs.length := by omega
  subst hie
  rw [List.take_length]
  conv => whnf
  repeat' (first|((with_reducible refine Split.dec (fun _=>?_) (fun _=>?_))<;>conv=>whnf)|((with_reducible refine Need.mk ?_ ?_);(first|omega|rfl|decide|(refine ⟨?_,?_⟩<;>simp<;>omega)|(simp;omega));conv=>whnf)|(exfalso;first|omega|contradiction)|fail)
  rfl
theorem inR_out (v : Int) : (!outsideB v 0 20000) = inR v := by
 rw [Bool.eq_iff_iff]
 simp [outsideB, inR]
theorem getD_o9 {l : List Int} {i : Nat} {v : Int} (h : l[i]? = some v) : l.getD i 0 = v := by rw [List.getD, h]; rfl
theorem take_all9 {l : List Int} {q : Int → Bool} {i : Nat} (hi : l.length ≤ i) (h : ∀ v ∈ l.take i, q v = true) : ∀ v ∈ l, q v = true := by rwa [List.take_of_length_le hi] at h
theorem take_one9 {l : List Int} {q : Int → Bool} {i : Nat} {v : Int} (hv : l[i]? = some v) (h : ∀ v ∈ l.take i, q v = true) (hq : q v = true) : ∀ v ∈ l.take (i + 1), q v = true := by
 intro z hz
 rw [take_snoc hv] at hz
 rcases List.mem_append.1 hz with hz | hz
 ·exact h z hz
 ·rw [List.mem_singleton.1 hz]; exact hq
theorem inR_take {l : List Int} {i j : Nat} (h : ∀ v ∈ l.take i, inR v = true) (hj : j < i) : 0 ≤ l.getD j 0 ∧ l.getD j 0 ≤ 20000 := by
 rw [List.getD_eq_getElem?_getD]
 cases hv : l[j]? with
 | none => simp
 | some v =>
  have := h v (List.mem_take_iff_getElem.2 ⟨j, by have := lt_of_some hv; omega, (List.getElem?_eq_some_iff.1 hv).2⟩)
  exact inR_iff.1 this
theorem prod_bd {a b M N : Int} (ha : 0 ≤ a ∧ a ≤ M) (hb : 0 ≤ b ∧ b ≤ N) : 0 ≤ a * b ∧ a * b ≤ M * N :=
 ⟨Int.mul_nonneg ha.1 hb.1, Int.mul_le_mul ha.2 hb.2 hb.1 (by omega)⟩
def yldP (room ps : List Int) (p : Nat) : Int := sumN p fun p => ps.getD p 0 * room.getD p 0
def yldN (vol bs : List Int) (b : Nat) : Int := sumN b fun b => bs.getD b 0 * vol.getD b 0
theorem yldP_bd {room ps : List Int} (hr : ∀ p, 0 ≤ room.getD p 0 ∧ room.getD p 0 ≤ 40000000000000) {p : Nat} (h : ∀ v ∈ ps.take p, inR v = true) : 0 ≤ yldP room ps p ∧ yldP room ps p ≤ p * 800000000000000000 :=
 ⟨sumN_nn fun q hq => (prod_bd (inR_take h hq) (hr q)).1, sumN_bd fun q hq => (prod_bd (inR_take h hq) (hr q)).2⟩
theorem yldN_bd {vol bs : List Int} (hv : ∀ b, 0 ≤ vol.getD b 0 ∧ vol.getD b 0 ≤ 10000000000000) {b : Nat} (h : ∀ v ∈ bs.take b, inR v = true) : 0 ≤ yldN vol bs b ∧ yldN vol bs b ≤ b * 200000000000000000 :=
 ⟨sumN_nn fun q hq => (prod_bd (inR_take h hq) (hv q)).1, sumN_bd fun q hq => (prod_bd (inR_take h hq) (hv q)).2⟩
theorem ev_yields {y : Yd} {l : List Bt} {vol room : List Int} {fl : List (List Int)} (h : TkOk y l vol room fl) (hpp : ∀ p ∈ y.pits, 0 ≤ p.price ∧ p.price ≤ 10000) (hvb : ∀ b, 0 ≤ vol.getD b 0 ∧ vol.getD b 0 ≤ 10000000000000) (hrb : ∀ p, 0 ≤ room.getD p 0 ∧ room.getD p 0 ≤ 40000000000000) (bs ps : List Int) :
 Ev Tryz.prog 47 [.ref (tkC y l vol room fl) 0, .agg [.sl 1 (bs.map iD), .sl 1 (ps.map iD)]] (.tup [iD (if yldB (accF y l) y.pits.length l.length (priceF y) bs ps = true then yieldS y.pits.length l.length vol room bs ps else 0), .bool (yldB (accF y l) y.pits.length l.length (priceF y) bs ps)]) := by
 have e1 := h.hv
 have e2 := h.hr
 have e3 := h.hL
 have e4 := h.hP
 have hlb : (bs.map iD).length = bs.length := List.length_map _
 have hlq : (ps.map iD).length = ps.length := List.length_map _
 have hlp : (y.pits.map ptD).length = y.pits.length := List.length_map _
 have hll : (l.map btD).length = l.length := List.length_map _
 have hlv : (vol.map iD).length = vol.length := List.length_map _
 have hlr : (room.map iD).length = room.length := List.length_map _
 have hno : ¬ Yld (accF y l) y.pits.length l.length (priceF y) bs ps → yldB (accF y l) y.pits.length l.length (priceF y) bs ps = false := yld_no
 have hyes : Yld (accF y l) y.pits.length l.length (priceF y) bs ps → yldB (accF y l) y.pits.length l.length (priceF y) bs ps = true := yld_iff.2
 have hAc := fun (p b : Nat) (hp : p < y.pits.length) (hb : b < l.length) => ev_acceptsD (y := y) (l := l) (vol := vol) (room := room) (fl := fl) hp hb h.cl
 unfold tkC at hAc ⊢
 generalize yldB (accF y l) y.pits.length l.length (priceF y) bs ps = B at *
 by_cases hb : bs.length = l.length
 case neg =>
  rw [hno fun h => hb h.bl]
  refine ev_of_awp tysOk mixed (fn := Tryz.f47) Tryz.func47 rfl rfl rfl ?_
  conv => whnf
  repeat' (first|((with_reducible refine Split.of_true ?_);conv=>whnf)|((with_reducible refine Split.nez (fun _=>?_) (fun _=>?_))<;>conv=>whnf)|(exfalso;first|omega|contradiction)|fail)
  all_goals first
   | rfl
   |(exfalso; omega)
 by_cases hq : ps.length = y.pits.length
 case neg =>
  rw [hno fun h => hq h.pl]
  refine ev_of_awp tysOk mixed (fn := Tryz.f47) Tryz.func47 rfl rfl rfl ?_
  conv => whnf
  repeat' (first|((with_reducible refine Split.of_true ?_);conv=>whnf)|((with_reducible refine Split.nez (fun _=>?_) (fun _=>?_))<;>conv=>whnf)|(exfalso;first|omega|contradiction)|fail)
  all_goals first
   | rfl
   |(exfalso; omega)
 refine ev_of_awp tysOk mixed (fn := Tryz.f47) Tryz.func47 rfl rfl rfl ?_
 conv => whnf
 repeat' (first|((with_reducible refine Split.of_true ?_);conv=>whnf)|((with_reducible refine Split.nez (fun _=>?_) (fun _=>?_))<;>conv=>whnf)|(exfalso;first|omega|contradiction)|fail)
 all_goals first
  |(exfalso; omega)
  | skip
 refine LoopK.o3 (fun p : Nat => p ≤ ps.length ∧ ∀ v ∈ ps.take p, inR v = true) (fun p => [(36, .d (iD p)), (6, .d (iD (-(yldP room ps p))))]) (fun _ => []) (fun p => ps.length - p) 0 ⟨by omega, by simp⟩ (by refine ⟨?_, ?_, rfl⟩<;>(repeat' (first|exact True.intro|exact rfl|(refine ⟨?_,?_⟩)|(intro h;cases h;done)|fail));done) ?_
 rintro p ⟨hp, hpr⟩
 dsimp only at hp ⊢
 have hbp := yldP_bd hrb hpr
 by_cases hpl : p < ps.length
 ·obtain ⟨v, hv⟩ := some_of_lt hpl
  have w1 := ev_dwithin v 0 20000
  rw [inR_out] at w1
  cases hin : inR v with
  | false =>
   rw [hin] at w1
   rw [hno fun h => by have := inR_iff.2 (h.pb v (List.mem_of_getElem? hv)); rw [hin] at this; cases this]
   conv => whnf
   repeat' (first|((refine PickE.map p hv (by omega) ?_);conv=>whnf)|((with_reducible refine Split.of_false ?_);conv=>whnf)|(with_reducible refine Split.neg ?_)|((with_reducible refine Split.dec (fun _=>?_) (fun _=>?_))<;>conv=>whnf)|((with_reducible refine Need.mk ?_ ?_);(first|omega|rfl|decide|(refine ⟨?_,?_⟩<;>simp<;>omega)|(simp;omega));conv=>whnf)|((with_reducible refine AltK.l ?_);(conv=>whnf);(first|(refine CallK.mk _ (w1) ?_));conv=>whnf)|(exfalso;first|omega|contradiction)|fail)
   all_goals first
    | rfl
    |(exfalso; omega)
  | true =>
   rw [hin] at w1
   obtain ⟨r, hr⟩ := some_of_lt (show p < room.length by omega)
   have hrp := hrb p
   rw [getD_o9 hr] at hrp
   have hvr := prod_bd (inR_iff.1 hin) hrp
   have hst : yldP room ps (p + 1) = yldP room ps p + v * r := by rw [yldP, sumN, getD_o9 hv, getD_o9 hr]; rfl
   have htk := take_one9 hv hpr hin
   have hb2 := yldP_bd hrb htk
   rw [hst] at hb2
   generalize yldP room ps p = s at *
   conv => whnf
   repeat' (first|((refine PickE.map p hr (by omega) ?_);conv=>whnf)|((refine PickE.map p hv (by omega) ?_);conv=>whnf)|((with_reducible refine Split.of_true ?_);conv=>whnf)|(with_reducible refine Split.neg ?_)|((with_reducible refine Split.dec (fun _=>?_) (fun _=>?_))<;>conv=>whnf)|((with_reducible refine Need.mk ?_ ?_);(first|omega|rfl|decide|(refine ⟨?_,?_⟩<;>simp<;>omega)|(simp;omega));conv=>whnf)|((with_reducible refine Wr.inr ?_ ?_);(first|omega|(simp;omega));conv=>whnf)|((with_reducible refine AltK.l ?_);(conv=>whnf);(first|(refine CallK.mk _ (w1) ?_));conv=>whnf)|(exfalso;first|omega|contradiction)|fail)
   all_goals first
    |(exfalso; omega)
    | skip
   refine Again.av (p + 1) ⟨by omega, htk⟩ (by omega) ?_
   rw [hst]
   exact (by refine ⟨?_, ?_, rfl⟩<;>(repeat' (first|exact True.intro|exact rfl|(refine ⟨?_,?_⟩)|(intro h;cases h;done)|(refine int_congr ?_;(first|omega|(simp;omega)))|fail));done)
 ·have hpe : p = ps.length := by omega
  subst hpe
  have hall := take_all9 (Nat.le_refl _) hpr
  clear hpr
  generalize hS2 : yldP room ps ps.length = S2 at *
  conv => whnf
  repeat' (first|((with_reducible refine Split.dec (fun _=>?_) (fun _=>?_))<;>conv=>whnf)|((with_reducible refine Need.mk ?_ ?_);(first|omega|rfl|decide|(refine ⟨?_,?_⟩<;>simp<;>omega)|(simp;omega));conv=>whnf)|(exfalso;first|omega|contradiction)|fail)
  refine LoopK.o3 (fun b : Nat => b ≤ bs.length ∧ (∀ v ∈ bs.take b, inR v = true) ∧ ∀ b', b' < b → ∀ p, p < y.pits.length → accF y l p b' = true → bs.getD b' 0 ≤ priceF y p + ps.getD p 0) (fun b => [(59, .d (iD b)), (6, .d (iD (yldN vol bs b - S2)))]) (fun _ => []) (fun b => bs.length - b) 0 ⟨by omega, by simp, fun _ h => absurd h (Nat.not_lt_zero _)⟩ (by refine ⟨?_, ?_, rfl⟩<;>(repeat' (first|exact True.intro|exact rfl|(refine ⟨?_,?_⟩)|(intro h;cases h;done)|((first|refine own_congr ?_|refine int_congr ?_|skip);simp [yldN,sumN];done)|fail));done) ?_
  rintro b ⟨hb1, hbr, hba⟩
  dsimp only at hb1 ⊢
  have hbb := yldN_bd hvb hbr
  by_cases hbl : b < bs.length
  ·obtain ⟨v, hv⟩ := some_of_lt hbl
   have w1 := ev_dwithin v 0 20000
   rw [inR_out] at w1
   cases hin : inR v with
   | false =>
    rw [hin] at w1
    rw [hno fun h => by have := inR_iff.2 (h.bb v (List.mem_of_getElem? hv)); rw [hin] at this; cases this]
    conv => whnf
    repeat' (first|((refine PickE.map b hv (by omega) ?_);conv=>whnf)|((with_reducible refine Split.of_false ?_);conv=>whnf)|(with_reducible refine Split.neg ?_)|((with_reducible refine Split.dec (fun _=>?_) (fun _=>?_))<;>conv=>whnf)|((with_reducible refine Need.mk ?_ ?_);(first|omega|rfl|decide|(refine ⟨?_,?_⟩<;>simp<;>omega)|(simp;omega));conv=>whnf)|((with_reducible refine AltK.l ?_);(conv=>whnf);(first|(refine CallK.mk _ (w1) ?_));conv=>whnf)|(exfalso;first|omega|contradiction)|fail)
    all_goals first
     | rfl
     |(exfalso; omega)
   | true =>
    rw [hin] at w1
    have hvr0 := inR_iff.1 hin
    conv => whnf
    repeat' (first|((refine PickE.map b hv (by omega) ?_);conv=>whnf)|((with_reducible refine Split.of_true ?_);conv=>whnf)|(with_reducible refine Split.neg ?_)|((with_reducible refine Split.dec (fun _=>?_) (fun _=>?_))<;>conv=>whnf)|((with_reducible refine Need.mk ?_ ?_);(first|omega|rfl|decide|(refine ⟨?_,?_⟩<;>simp<;>omega)|(simp;omega));conv=>whnf)|((with_reducible refine AltK.l ?_);(conv=>whnf);(first|(refine CallK.mk _ (w1) ?_));conv=>whnf)|(exfalso;first|omega|contradiction)|fail)
    all_goals first
     |(exfalso; omega)
     | skip
    refine LoopK.o3 (fun p : Nat => p ≤ ps.length ∧ ∀ q, q < p → accF y l q b = true → v ≤ priceF y q + ps.getD q 0) (fun p => [(70, .d (iD p))]) (fun _ => []) (fun p => ps.length - p) 0 ⟨by omega, fun _ h => absurd h (Nat.not_lt_zero _)⟩ (by refine ⟨?_, ?_, rfl⟩<;>(repeat' (first|exact True.intro|exact rfl|(refine ⟨?_,?_⟩)|(intro h;cases h;done)|fail));done) ?_
    rintro p ⟨hp, hpa⟩
    by_cases hpl : p < ps.length
    ·have w3 := hAc p b (by omega) (by omega)
     obtain ⟨q, hqq⟩ := some_of_lt (show p < y.pits.length by omega)
     obtain ⟨u, hu⟩ := some_of_lt hpl
     have hub := inR_iff.1 (hall u (List.mem_of_getElem? hu))
     have hqp := hpp q (List.mem_of_getElem? hqq)
     have hpq : priceF y p = q.price := by rw [priceF, hqq]
     cases hac : accF y l p b with
     | false =>
      rw [hac] at w3
      conv => whnf
      repeat' (first|((with_reducible refine Split.of_false ?_);conv=>whnf)|((with_reducible refine Split.dec (fun _=>?_) (fun _=>?_))<;>conv=>whnf)|((with_reducible refine Need.mk ?_ ?_);(first|omega|rfl|decide|(refine ⟨?_,?_⟩<;>simp<;>omega)|(simp;omega));conv=>whnf)|((with_reducible refine Wr.inr ?_ ?_);(first|omega|(simp;omega));conv=>whnf)|((with_reducible refine AltK.l ?_);(conv=>whnf);(first|(refine CallK.mk _ (w3) ?_));conv=>whnf)|(exfalso;first|omega|contradiction)|fail)
      refine Again.av (p + 1) ⟨by omega, fun q' hq' ha => ?_⟩ (by omega) (by refine ⟨?_, ?_, rfl⟩<;>(repeat' (first|exact True.intro|exact rfl|(refine ⟨?_,?_⟩)|(intro h;cases h;done)|fail));done)
      by_cases e : q' = p
      ·subst e; rw [hac] at ha; cases ha
      ·exact hpa q' (by omega) ha
     | true =>
      rw [hac] at w3
      by_cases hgt : q.price + u < v
      ·rw [hno fun h => by
        have := h.ac b (by omega) p (by omega) hac
        rw [getD_o9 hv, getD_o9 hu, hpq] at this
        omega]
       conv => whnf
       repeat' (first|((refine PickE.map p hu (by omega) ?_);conv=>whnf)|((refine PickE.map p hqq (by omega) ?_);conv=>whnf)|((with_reducible refine Split.of_true ?_);conv=>whnf)|((with_reducible refine Split.dec (fun _=>?_) (fun _=>?_))<;>conv=>whnf)|((with_reducible refine Need.mk ?_ ?_);(first|omega|rfl|decide|(refine ⟨?_,?_⟩<;>simp<;>omega)|(simp;omega));conv=>whnf)|((with_reducible refine Wr.inr ?_ ?_);(first|omega|(simp;omega));conv=>whnf)|((with_reducible refine AltK.l ?_);(conv=>whnf);(first|(refine CallK.mk _ (w3) ?_));conv=>whnf)|(exfalso;first|omega|contradiction)|fail)
       all_goals first
        | rfl
        |(exfalso; omega)
      ·conv => whnf
       repeat' (first|((refine PickE.map p hu (by omega) ?_);conv=>whnf)|((refine PickE.map p hqq (by omega) ?_);conv=>whnf)|((with_reducible refine Split.of_true ?_);conv=>whnf)|((with_reducible refine Split.dec (fun _=>?_) (fun _=>?_))<;>conv=>whnf)|((with_reducible refine Need.mk ?_ ?_);(first|omega|rfl|decide|(refine ⟨?_,?_⟩<;>simp<;>omega)|(simp;omega));conv=>whnf)|((with_reducible refine Wr.inr ?_ ?_);(first|omega|(simp;omega));conv=>whnf)|((with_reducible refine AltK.l ?_);(conv=>whnf);(first|(refine CallK.mk _ (w3) ?_));conv=>whnf)|(exfalso;first|omega|contradiction)|fail)
       all_goals first
        |(exfalso; omega)
        | skip
       refine Again.av (p + 1) ⟨by omega, fun q' hq' ha => ?_⟩ (by omega) (by refine ⟨?_, ?_, rfl⟩<;>(repeat' (first|exact True.intro|exact rfl|(refine ⟨?_,?_⟩)|(intro h;cases h;done)|fail));done)
       by_cases e : q' = p
       ·subst e; rw [hpq, getD_o9 hu]; omega
       ·exact hpa q' (by omega) ha
    ·obtain ⟨r, hr⟩ := some_of_lt (show b < vol.length by omega)
     have hrp := hvb b
     rw [getD_o9 hr] at hrp
     have hvr := prod_bd hvr0 hrp
     have hst : yldN vol bs (b + 1) = yldN vol bs b + v * r := by rw [yldN, sumN, getD_o9 hv, getD_o9 hr]; rfl
     have htk := take_one9 hv hbr hin
     have hb2 := yldN_bd hvb htk
     rw [hst] at hb2
     generalize yldN vol bs b = s at *
     conv => whnf
     repeat' (first|((refine PickE.map b hr (by omega) ?_);conv=>whnf)|((with_reducible refine Split.dec (fun _=>?_) (fun _=>?_))<;>conv=>whnf)|((with_reducible refine Need.mk ?_ ?_);(first|omega|rfl|decide|(refine ⟨?_,?_⟩<;>simp<;>omega)|(simp;omega));conv=>whnf)|((with_reducible refine Wr.inr ?_ ?_);(first|omega|(simp;omega));conv=>whnf)|(exfalso;first|omega|contradiction)|fail)
     all_goals first
      |(exfalso; omega)
      | skip
     refine Again.av (b + 1) ⟨by omega, htk, fun b' hb' q hq' ha => ?_⟩ (by omega) ?_
     ·by_cases e : b' = b
      ·subst e; rw [getD_o9 hv]; exact hpa q (by omega) ha
      ·exact hba b' (by omega) q hq' ha
     ·rw [hst, show s + v * r - S2 = s - S2 + v * r by omega]
      exact (by refine ⟨?_, ?_, rfl⟩<;>(repeat' (first|exact True.intro|exact rfl|(refine ⟨?_,?_⟩)|(intro h;cases h;done)|fail));done)
  ·have hbe : b = bs.length := by omega
   subst hbe
   have hY : Yld (accF y l) y.pits.length l.length (priceF y) bs ps := ⟨hb, hq, fun v hv => inR_iff.1 (hall v hv), fun v hv => inR_iff.1 (take_all9 (Nat.le_refl _) hbr v hv), fun b' hb' p hp ha => hba b' (by omega) p hp ha⟩
   have hys : yieldS y.pits.length l.length vol room bs ps = yldN vol bs bs.length - S2 := by rw [← hS2, yieldS, yldN, yldP, hb, hq]
   rw [hyes hY, if_pos rfl, hys]
   generalize yldN vol bs bs.length = s at *
   conv => whnf
   repeat' (first|((with_reducible refine Split.dec (fun _=>?_) (fun _=>?_))<;>conv=>whnf)|((with_reducible refine Need.mk ?_ ?_);(first|omega|rfl|decide|(refine ⟨?_,?_⟩<;>simp<;>omega)|(simp;omega));conv=>whnf)|(exfalso;first|omega|contradiction)|fail)
   rfl
theorem ev_CheckCheapest {y : Yd} {l : List Bt} (hs : smallP y) (h0 : lstE y l = 0) (f : Frt) (hn : f.xs.length ≤ 1000) :
 Ev Tryz.prog 17 [ydD y, .sl 5 (l.map btD), frD f] (iD (if prvB y l f = true then 0 else 21)) := by
 have hO := ls_ok h0
 have hy := yd_ok hO.yd
 have hlen := hO.len
 have hP8 := hy.pits
 have hT := tk_ok hs hO
 have hB := ev_begin hs (show l.length ≤ 1000000 by omega) h0
 have hA := ev_assigned hT f.xs hn
 have hY := ev_yields hT (pt_price hy) (fun b => ⟨(vol_bd hO b).1, vol_13 hO b⟩) (room_bd hy) f.tf.bs f.tf.ps
 have hPr := fun h1 h2 => ev_priceD (y := y) (l := l) (vol := volF y l) (room := roomF y) (fl := flow0 y l) (by omega) f.xs hn h1 (pt_price hy) h2
 have hch := fun h => chr_bd hO ((asg_chr9 hO f.xs).1 h)
 have hres : prvB y l f = (asgB (accF y l) (atI l) (pitI y) (volF y l) (roomF y) f.xs && decide (costF y f.xs = f.cost) && yldB (accF y l) y.pits.length l.length (priceF y) f.tf.bs f.tf.ps && decide (yieldS y.pits.length l.length (volF y l) (roomF y) f.tf.bs f.tf.ps = f.cost)) := rfl
 generalize prvB y l f = res at *
 obtain ⟨xs, cost, ⟨bs, ps, bb⟩⟩ := f
 dsimp only at *
 unfold frD
 dsimp only
 unfold tkC at hB hA hY hPr
 cases hab : asgB (accF y l) (atI l) (pitI y) (volF y l) (roomF y) xs with
 | false =>
  rw [hab] at hA hres
  rw [hres]
  refine ev_of_awp tysOk mixed (fn := Tryz.f17) Tryz.func17 rfl rfl rfl ?_
  conv => whnf
  repeat' (first|((with_reducible first|refine Split.of_true ?_|refine Split.of_false ?_);conv=>whnf)|(with_reducible refine Split.neg ?_)|((with_reducible refine Split.is_false ?_ ?_);decide;conv=>whnf)|((with_reducible refine AltK.l ?_);(conv=>whnf);(first|(refine CallK.mk _ (hB) ?_)|(refine CallK.mk _ (hA) ?_));conv=>whnf)|fail)
  all_goals first
   | rfl
   |(exfalso; omega)
 | true =>
 obtain ⟨c1, c2⟩ := hch hab
 have hP := hPr c1 c2
 rw [hab, Bool.true_and] at hres
 rw [hab] at hA
 clear hPr hch hab c1 c2
 generalize costF y xs = cst at *
 by_cases hc : cst = cost
 case neg =>
  rw [decide_eq_false hc] at hres
  rw [hres]
  refine ev_of_awp tysOk mixed (fn := Tryz.f17) Tryz.func17 rfl rfl rfl ?_
  conv => whnf
  repeat' (first|((with_reducible refine Split.of_true ?_);conv=>whnf)|(with_reducible refine Split.neg ?_)|((with_reducible refine Split.is_false ?_ ?_);decide;conv=>whnf)|((with_reducible refine Split.nez (fun _=>?_) (fun _=>?_))<;>conv=>whnf)|((with_reducible refine AltK.l ?_);(conv=>whnf);(first|(refine CallK.mk _ (hB) ?_)|(refine CallK.mk _ (hA) ?_)|(refine CallK.mk _ (hP) ?_));conv=>whnf)|(exfalso;first|omega|contradiction)|fail)
  all_goals first
   | rfl
   |(exfalso; omega)
 rw [decide_eq_true hc, Bool.true_and] at hres
 have hJ := fun b => ev_judged b
 generalize yieldS y.pits.length l.length (volF y l) (roomF y) bs ps = ys at *
 cases hyb : yldB (accF y l) y.pits.length l.length (priceF y) bs ps with
 | false =>
  rw [hyb] at hY hres
  rw [hres]
  have hJ := ev_judged false
  refine ev_of_awp tysOk mixed (fn := Tryz.f17) Tryz.func17 rfl rfl rfl ?_
  conv => whnf
  repeat' (first|((with_reducible first|refine Split.of_true ?_|refine Split.of_false ?_);conv=>whnf)|(with_reducible refine Split.neg ?_)|((with_reducible refine Split.is_false ?_ ?_);decide;conv=>whnf)|((with_reducible refine Split.nez (fun _=>?_) (fun _=>?_))<;>conv=>whnf)|((with_reducible refine AltK.l ?_);(conv=>whnf);(first|(refine CallK.mk _ (hB) ?_)|(refine CallK.mk _ (hA) ?_)|(refine CallK.mk _ (hP) ?_)|(refine CallK.mk _ (hY) ?_)|(refine CallK.mk _ (hJ) ?_));conv=>whnf)|(exfalso;first|omega|contradiction)|fail)
  all_goals first
   | rfl
   |(exfalso; omega)
 | true =>
  rw [hyb, Bool.true_and] at hres
  rw [hyb, if_pos rfl] at hY
  rw [hres]
  have hJ := ev_judged (decide (ys = cost))
  refine ev_of_awp tysOk mixed (fn := Tryz.f17) Tryz.func17 rfl rfl rfl ?_
  conv => whnf
  repeat' (first|((with_reducible refine Split.of_true ?_);conv=>whnf)|(with_reducible refine Split.neg ?_)|((with_reducible refine Split.is_false ?_ ?_);decide;conv=>whnf)|((with_reducible refine Split.nez (fun _=>?_) (fun _=>?_))<;>conv=>whnf)|((with_reducible refine AltK.l ?_);(conv=>whnf);(first|(refine CallK.mk _ (hB) ?_)|(refine CallK.mk _ (hA) ?_)|(refine CallK.mk _ (hP) ?_)|(refine CallK.mk _ (hY) ?_)|(refine CallK.mk _ (hJ) ?_));conv=>whnf)|(exfalso;first|omega|contradiction)|fail)
  all_goals first
   | rfl
   |(exfalso; omega)
end Go.Proofs.Tryz
end
