/- Texts DsB DrJ DrO DsG DsI DsJ DsK DqH, joined; what is not needed is left out. -/
import Derived.Test.YtahnaobdihhppaaMgI
import Derived.Test.YtahnaobdihhppaaProg
import Derived.Test.YtahnaobdihhppaaMgH
import Derived.Test.YtahnaobdihhppaaMpb
section
namespace Go.Proofs.Try
open Go Go.Vm
set_option maxRecDepth 20000
set_option maxHeartbeats 8000000
def tkC (y : Yd) (l : List Bt) (vol room : List Int) (fl : List (List Int)) : List D :=
 [.sl 6 (y.pits.map ptD), .sl 3 (y.bulk.map bkD), .sl 3 (y.deps.map dpD), .sl 1 (y.carry.map iD), .sl 5 (l.map btD), .sl 1 (vol.map iD), .sl 1 (room.map iD), .sl 1 ((fl.map fun r => r.map iD).map (.sl 1))]
theorem ev_begin {y : Yd} {l : List Bt} (hs : smallP y) (hl : l.length ≤ 1000000) (h0 : lstE y l = 0) :
 Ev Try.prog 92 [ydD y, .sl 5 (l.map btD)] (.tup [.ref (tkC y l (volF y l) (roomF y) (flow0 y l)) 0, iD 0]) :=
 Ev.ofPtr (b := 9) (rest := [iD 0]) (xv_begin hs hl h0) rfl rfl (.unM (rs := (flow0 y l).map fun r => r.map iD) (by rw [List.map_map]; rfl) (.ok _ _))
section
variable {y : Yd} {l : List Bt} {vol room : List Int} {fl : List (List Int)}
theorem ev_batchOfD (n : Int) (hl : l.length ≤ 1000000) : Ev Try.prog 115 [.ref (tkC y l vol room fl) 0, iD n] (iD (atI l n)) := by
 have hw := ev_IndexBt l 128 [.ref [iD n] 0] (fun b => b.n == n) hl (fun b _ => ev_batchOf1 b n)
 unfold tkC
 refine ev_of_awp tysOk mixed (fn := Try.f115) Try.func115 rfl rfl rfl ?_
 conv => whnf
 repeat' (first|((with_reducible refine AltK.l ?_);(conv=>whnf);(first|(refine CallK.mk _ (hw) ?_));conv=>whnf)|fail)
 rfl
theorem ev_acceptsD {p b : Nat} (hp : p < y.pits.length) (hb : b < l.length) (hcl : ∀ p ∈ y.pits, p.cls.length ≤ 1000000) :
 Ev Try.prog 116 [.ref (tkC y l vol room fl) 0, iD p, iD b] (.bool (accF y l p b)) := by
 obtain ⟨q, hq⟩ := some_of_lt hp
 obtain ⟨x, hx⟩ := some_of_lt hb
 have hl1 : (y.pits.map ptD).length = y.pits.length := List.length_map _
 have hl2 : (l.map btD).length = l.length := List.length_map _
 have hc := ev_ContainsInt q.cls x.cls (hcl q (List.mem_of_getElem? hq))
 have el : accF y l p b = q.cls.any fun c => c == x.cls := by simp [accF, hq, hx, accB]
 rw [el]
 unfold tkC
 refine ev_of_awp tysOk mixed (fn := Try.f116) Try.func116 rfl rfl rfl ?_
 conv => whnf
 repeat' (first|((refine PickE.map b hx (by omega) ?_);conv=>whnf)|((refine PickE.map p hq (by omega) ?_);conv=>whnf)|((with_reducible refine Need.mk ?_ ?_);(first|omega|rfl|decide|(refine ⟨?_,?_⟩<;>simp<;>omega)|(simp;omega));conv=>whnf)|((with_reducible refine AltK.l ?_);(conv=>whnf);(first|(refine CallK.mk _ (hc) ?_));conv=>whnf)|fail)
 rfl
end
theorem ev_IndexIf (l : List Int) (f : Nat) (p : Int → Bool) (hn : l.length ≤ 1000000) (hf : ∀ g ∈ l, Ev Try.prog f [iD g] (.bool (p g))) :
 Ev Try.prog 129 [.sl 1 (l.map iD), .fn f []] (iD (ixI p l)) := by
 have hlen : (l.map iD).length = l.length := List.length_map _
 refine ev_of_awp tysOk mixed (fn := Try.f129) Try.func129 rfl rfl rfl ?_
 conv => whnf
 skip
 refine LoopK.o2 (fun i : Nat => i ≤ l.length ∧ ∀ g ∈ l.take i, p g = false) (fun i => [(8, .d (.int .i64 i))]) (fun _ => []) (fun i => l.length - i) 0 (by simp) (by refine ⟨?_, ?_, rfl⟩<;>(repeat' (first|exact True.intro|exact rfl|(refine ⟨?_,?_⟩)|fail));done) ?_
 rintro i ⟨hi, hp⟩
 by_cases hil : i < l.length
 ·obtain ⟨g, hg⟩ := some_of_lt hil
  have hc := hf g (List.mem_of_getElem? hg)
  cases hpg : p g with
  | true =>
   rw [hpg] at hc
   conv => whnf
   repeat' (first|((refine PickE.map i hg (by omega) ?_);conv=>whnf)|((with_reducible refine Split.of_true ?_);conv=>whnf)|((with_reducible refine Split.dec (fun _=>?_) (fun _=>?_))<;>conv=>whnf)|((with_reducible refine Need.mk ?_ ?_);(first|omega|rfl|decide|(refine ⟨?_,?_⟩<;>simp<;>omega)|(simp;omega));conv=>whnf)|((with_reducible refine AltK.l ?_);(conv=>whnf);(first|(refine CallK.mk _ (hc) ?_));conv=>whnf)|(exfalso;first|omega|contradiction)|fail)
   have e : l.findIdx? p = some i := by
    rw [List.findIdx?_eq_some_iff_getElem]
    refine ⟨by omega, by rw [(List.getElem?_eq_some_iff.1 hg).2]; exact hpg, fun j hj => ?_⟩
    have := hp l[j] (List.mem_take_iff_getElem.2 ⟨j, by omega, rfl⟩)
    rw [this]; decide
   rw [ixI, e]; rfl
  | false =>
   rw [hpg] at hc
   conv => whnf
   repeat' (first|((refine PickE.map i hg (by omega) ?_);conv=>whnf)|((with_reducible refine Split.of_false ?_);conv=>whnf)|((with_reducible refine Split.dec (fun _=>?_) (fun _=>?_))<;>conv=>whnf)|((with_reducible refine Need.mk ?_ ?_);(first|omega|rfl|decide|(refine ⟨?_,?_⟩<;>simp<;>omega)|(simp;omega));conv=>whnf)|((with_reducible refine Wr.inr ?_ ?_);(first|omega|(simp;omega));conv=>whnf)|((with_reducible refine AltK.l ?_);(conv=>whnf);(first|(refine CallK.mk _ (hc) ?_));conv=>whnf)|(exfalso;first|omega|contradiction)|fail)
   refine Again.au (i + 1) ⟨by omega, fun z hz => ?_⟩ (by omega) (by refine ⟨?_, ?_, rfl⟩<;>(repeat' (first|exact True.intro|exact rfl|(refine ⟨?_,?_⟩)|fail));done)
   rw [take_snoc hg] at hz
   rcases List.mem_append.1 hz with hz | hz
   ·exact hp z hz
   ·rw [List.mem_singleton.1 hz]; exact hpg
 ·have e : l.findIdx? p = none := by
   rw [List.findIdx?_eq_none_iff]
   intro z hz
   rw [← List.take_of_length_le (show l.length ≤ i by omega)] at hz
   exact hp z hz
  rw [ixI, e]
  conv => whnf
  repeat' (first|((with_reducible refine Split.dec (fun _=>?_) (fun _=>?_))<;>conv=>whnf)|((with_reducible refine Need.mk ?_ ?_);(first|omega|rfl|decide|(refine ⟨?_,?_⟩<;>simp<;>omega)|(simp;omega));conv=>whnf)|(exfalso;first|omega|contradiction)|fail)
  rfl
theorem ev_ContainsIf (l : List Int) (f : Nat) (p : Int → Bool) (hn : l.length ≤ 1000000) (hf : ∀ g ∈ l, Ev Try.prog f [iD g] (.bool (p g))) :
 Ev Try.prog 117 [.sl 1 (l.map iD), .fn f []] (.bool (l.any p)) := by
 have h := ev_IndexIf l f p hn hf
 rw [any_ix]
 generalize ixI p l = i at *
 refine ev_of_awp tysOk mixed (fn := Try.f117) Try.func117 rfl rfl rfl ?_
 conv => whnf
 repeat' (first|((with_reducible refine AltK.l ?_);(conv=>whnf);(first|(refine CallK.mk _ (h) ?_));conv=>whnf)|fail)
 simp only [retOf, D.bool.injEq, decide_eq_decide]; omega
theorem ev_assigned1 (v : Int) : Ev Try.prog 118 [iD v] (.bool (v != 0)) := by
 refine ev_of_awp tysOk mixed (fn := Try.f118) Try.func118 rfl rfl rfl ?_
 conv => whnf
 skip
 rfl
def prD (k : Int × Int) : D := .agg [iD k.1, iD k.2]
theorem asgGo_at {acc : Nat → Nat → Bool} {ib : Int → Int} {ip : ByteArray → Int} {v r : List Int} {sn : List (Int × Int)} {x : List Al} {i : Nat} {a : Al} (h : x[i]? = some a) : asgGo acc ib ip v r sn (x.drop i) =
 if ib a.n < 0 ∨ ip a.pit < 0 ∨ a.vol ≤ 0 then none
 else if acc (ip a.pit).toNat (ib a.n).toNat = false then none
 else if (ib a.n, ip a.pit) ∈ sn then none
 else if v.getD (ib a.n).toNat 0 < a.vol ∨ r.getD (ip a.pit).toNat 0 < a.vol then none
 else asgGo acc ib ip (v.set (ib a.n).toNat (v.getD (ib a.n).toNat 0 - a.vol)) (r.set (ip a.pit).toNat (r.getD (ip a.pit).toNat 0 - a.vol)) (sn ++ [(ib a.n, ip a.pit)]) (x.drop (i + 1)) := by
 rw [drop_of h, asgGo]
theorem ev_assigned {y : Yd} {l : List Bt} {vol room : List Int} {fl : List (List Int)} (h : TkOk y l vol room fl) (x : List Al) (hn : x.length ≤ 1000) :
 Ev Try.prog 93 [.ref (tkC y l vol room fl) 0, .sl 3 (x.map alD)] (.bool (asgB (accF y l) (atI l) (pitI y) vol room x)) := by
 have e1 := h.hv
 have e2 := h.hr
 have e3 := h.hL
 have e4 := h.hP
 have hlx : (x.map alD).length = x.length := List.length_map _
 have c1 : EvX Try.prog 53 [.d (.sl 1 (vol.map iD))] [] (.own 17 1 (vol.map iD).length) [(17, .row 3 1 (vol.map iD) false)] := EvX.new1 (xs := [.sl 1 (vol.map iD)]) (xv_clonedI vol (by omega)) 17
 have c2 : EvX Try.prog 53 [.d (.sl 1 (room.map iD))] [] (.own 22 1 (room.map iD).length) [(22, .row 3 1 (room.map iD) false)] := EvX.new1 (xs := [.sl 1 (room.map iD)]) (xv_clonedI room (by omega)) 22
 have hBt := fun n => ev_batchOfD (y := y) (l := l) (vol := vol) (room := room) (fl := fl) n (by omega)
 have hAc := fun (p b : Nat) (hp : p < y.pits.length) (hb : b < l.length) => ev_acceptsD (y := y) (l := l) (vol := vol) (room := room) (fl := fl) hp hb h.cl
 unfold tkC at hBt hAc ⊢
 have hres : ∀ r, asgGo (accF y l) (atI l) (pitI y) vol room [] x = r → asgB (accF y l) (atI l) (pitI y) vol room x = match r with
  | none => false
  | some v => !v.any fun z => z != 0 := fun r hr => by subst hr; rfl
 generalize asgB (accF y l) (atI l) (pitI y) vol room x = res at *
 refine ev_of_awp tysOk mixed (fn := Try.f93) Try.func93 rfl rfl rfl ?_
 conv => whnf
 repeat' (first|((with_reducible refine AltK.r ?_);(conv=>whnf);(first|(refine CallX.mk _ _ (c1) rfl ?_)|(refine CallX.mk _ _ (c2) rfl ?_));conv=>whnf)|fail)
 refine LoopK.o3 (fun z : Nat × List Int × List Int × List (Int × Int) => z.1 ≤ x.length ∧ asgGo (accF y l) (atI l) (pitI y) vol room [] x = asgGo (accF y l) (atI l) (pitI y) z.2.1 z.2.2.1 z.2.2.2 (x.drop z.1) ∧ z.2.1.length = l.length ∧ z.2.2.1.length = y.pits.length ∧ z.2.2.2.length = z.1 ∧ (∀ q ∈ z.2.1, 0 ≤ q ∧ q ≤ 100000000000000000) ∧ (∀ q ∈ z.2.2.1, 0 ≤ q ∧ q ≤ 100000000000000000))
  (fun z => [(25, .d (iD z.1)), (7, .own 200 2 (z.2.2.2.map prD).length)]) (fun z => [(17, .row 3 1 (z.2.1.map iD) false), (22, .row 3 1 (z.2.2.1.map iD) false), (200, .row 158 2 (z.2.2.2.map prD) false)]) (fun z => x.length - z.1)
  (0, vol, room, []) ⟨by omega, rfl, e1, e2, rfl, h.vb, h.rb⟩ (by refine ⟨?_, ?_, rfl⟩<;>(repeat' (first|exact True.intro|exact rfl|(refine ⟨?_,?_⟩)|(intro h;cases h;done)|fail));done) ?_
 rintro ⟨i, v, r, sn⟩ ⟨hi, hgo, hvl, hrl, hsl, hvb, hrb⟩
 dsimp only at hi hgo hvl hrl hsl hvb hrb ⊢
 have hvm : (v.map iD).length = v.length := List.length_map _
 have hrm : (r.map iD).length = r.length := List.length_map _
 have hsm : (sn.map prD).length = sn.length := List.length_map _
 by_cases hil : i < x.length
 ·obtain ⟨a, ha⟩ := some_of_lt hil
  have hxD : (x.map alD)[(i : Int).toNat]? = some (D.agg [iD a.n, .str a.pit, iD a.vol]) := by rw [Int.toNat_natCast, List.getElem?_map, ha]; rfl
  have w1 := hBt a.n
  have w2 := ev_pitOf y a.pit (by omega)
  rw [asgGo_at ha] at hgo
  have l1 : atI l a.n < l.length := ix_lt
  have l2 : pitI y a.pit < y.pits.length := ix_lt
  by_cases hc0 : atI l a.n < 0 ∨ pitI y a.pit < 0 ∨ a.vol ≤ 0
  ·rw [if_pos hc0] at hgo
   rw [hres _ hgo]
   clear hgo hres
   generalize atI l a.n = bi at *
   generalize pitI y a.pit = pi at *
   conv => whnf
   repeat' (first|((refine PickE.mk _ hxD ?_);conv=>whnf)|((with_reducible refine Split.of_true ?_);conv=>whnf)|((with_reducible refine Split.dec (fun _=>?_) (fun _=>?_))<;>conv=>whnf)|((with_reducible refine Need.mk ?_ ?_);(first|omega|rfl|decide|(refine ⟨?_,?_⟩<;>simp<;>omega)|(simp;omega));conv=>whnf)|((with_reducible refine AltK.l ?_);(conv=>whnf);(first|(refine CallK.mk _ (w1) ?_)|(refine CallK.mk _ (w2) ?_));conv=>whnf)|(exfalso;first|omega|contradiction)|fail)
   all_goals first
    | rfl
    |(exfalso; omega)
  rw [if_neg hc0] at hgo
  obtain ⟨b, hb⟩ : ∃ b : Nat, atI l a.n = b := ⟨(atI l a.n).toNat, by omega⟩
  obtain ⟨p, hp⟩ : ∃ p : Nat, pitI y a.pit = p := ⟨(pitI y a.pit).toNat, by omega⟩
  rw [hb, hp] at hgo hc0
  rw [hb] at w1 l1
  rw [hp] at w2 l2
  simp only [Int.toNat_natCast] at hgo
  clear hb hp
  have w3 := hAc p b (by omega) (by omega)
  cases hac : accF y l p b with
  | false =>
   rw [hac, if_pos rfl] at hgo
   rw [hac] at w3
   rw [hres _ hgo]
   clear hgo hres
   conv => whnf
   repeat' (first|((refine PickE.mk _ hxD ?_);conv=>whnf)|((with_reducible first|refine Split.of_true ?_|refine Split.of_false ?_);conv=>whnf)|(with_reducible refine Split.neg ?_)|((with_reducible refine Split.dec (fun _=>?_) (fun _=>?_))<;>conv=>whnf)|((with_reducible refine Need.mk ?_ ?_);(first|omega|rfl|decide|(refine ⟨?_,?_⟩<;>simp<;>omega)|(simp;omega));conv=>whnf)|((with_reducible refine AltK.l ?_);(conv=>whnf);(first|(refine CallK.mk _ (w1) ?_)|(refine CallK.mk _ (w2) ?_)|(refine CallK.mk _ (w3) ?_));conv=>whnf)|(exfalso;first|omega|contradiction)|fail)
   all_goals first
    | rfl
    |(exfalso; omega)
  | true =>
  rw [hac, if_neg (by decide)] at hgo
  rw [hac] at w3
  conv => whnf
  repeat' (first|((refine PickE.mk _ hxD ?_);conv=>whnf)|((with_reducible refine Split.of_true ?_);conv=>whnf)|(with_reducible refine Split.neg ?_)|((with_reducible refine Split.dec (fun _=>?_) (fun _=>?_))<;>conv=>whnf)|((with_reducible refine Need.mk ?_ ?_);(first|omega|rfl|decide|(refine ⟨?_,?_⟩<;>simp<;>omega)|(simp;omega));conv=>whnf)|((with_reducible refine AltK.l ?_);(conv=>whnf);(first|(refine CallK.mk _ (w1) ?_)|(refine CallK.mk _ (w2) ?_)|(refine CallK.mk _ (w3) ?_));conv=>whnf)|(exfalso;first|omega|contradiction)|fail)
  all_goals first
   |(exfalso; omega)
   | skip
  refine LoopK.o3 (fun j : Nat => j ≤ sn.length ∧ ∀ c ∈ sn.take j, c ≠ ((b : Int), (p : Int))) (fun j => [(65, .d (iD j))]) (fun _ => []) (fun j => sn.length - j) 0 ⟨by omega, by simp⟩ (by refine ⟨?_, ?_, rfl⟩<;>(repeat' (first|exact True.intro|exact rfl|(refine ⟨?_,?_⟩)|(intro h;cases h;done)|fail));done) ?_
  rintro j ⟨hj, hjn⟩
  by_cases hjl : j < sn.length
  ·obtain ⟨c, hc⟩ := some_of_lt hjl
   have hcD : (sn.map prD)[(j : Int).toNat]? = some (D.agg [iD c.1, iD c.2]) := by rw [Int.toNat_natCast, List.getElem?_map, hc]; rfl
   by_cases hce : c = ((b : Int), (p : Int))
   ·have hin : ((b : Int), (p : Int)) ∈ sn := by rw [← hce]; exact List.mem_of_getElem? hc
    rw [if_pos hin] at hgo
    rw [hres _ hgo]
    clear hgo hres
    subst hce
    conv => whnf
    repeat' (first|((refine PickE.mk _ hcD ?_);conv=>whnf)|((with_reducible refine Split.of_true ?_);conv=>whnf)|((with_reducible refine Split.eqz (fun _=>?_) (fun _=>?_))<;>conv=>whnf)|(with_reducible refine Split.and ?_)|((with_reducible refine Split.dec (fun _=>?_) (fun _=>?_))<;>conv=>whnf)|((with_reducible refine Need.mk ?_ ?_);(first|omega|rfl|decide|(refine ⟨?_,?_⟩<;>simp<;>omega)|(simp;omega));conv=>whnf)|((with_reducible refine Wr.inr ?_ ?_);(first|omega|(simp;omega));conv=>whnf)|(exfalso;first|omega|contradiction)|fail)
    all_goals first
     | rfl
     | contradiction
     |(exfalso; omega)
   ·conv => whnf
    repeat' (first|((refine PickE.mk _ hcD ?_);conv=>whnf)|((with_reducible refine Split.of_true ?_);conv=>whnf)|((with_reducible refine Split.eqz (fun _=>?_) (fun _=>?_))<;>conv=>whnf)|(with_reducible refine Split.and ?_)|((with_reducible refine Split.dec (fun _=>?_) (fun _=>?_))<;>conv=>whnf)|((with_reducible refine Need.mk ?_ ?_);(first|omega|rfl|decide|(refine ⟨?_,?_⟩<;>simp<;>omega)|(simp;omega));conv=>whnf)|((with_reducible refine Wr.inr ?_ ?_);(first|omega|(simp;omega));conv=>whnf)|(exfalso;first|omega|contradiction)|fail)
    all_goals first
     |(exfalso; exact hce (Prod.ext (by assumption) (by assumption)))
     | skip
    all_goals refine Again.av (j + 1) ⟨by omega, fun z hz => ?_⟩ (by omega) (by refine ⟨?_, ?_, rfl⟩<;>(repeat' (first|exact True.intro|exact rfl|(refine ⟨?_,?_⟩)|(intro h;cases h;done)|fail));done)
    all_goals
     rw [take_snoc hc] at hz
     rcases List.mem_append.1 hz with hz | hz
     ·exact hjn z hz
     ·rw [List.mem_singleton.1 hz]; exact hce
  ·have hje : j = sn.length := by omega
   subst hje
   rw [List.take_length] at hjn
   have hni : ((b : Int), (p : Int)) ∉ sn := fun h => hjn _ h rfl
   rw [if_neg hni] at hgo
   obtain ⟨vb, hvb1⟩ := some_of_lt (show b < v.length by omega)
   obtain ⟨rp, hrp1⟩ := some_of_lt (show p < r.length by omega)
   have k1 := hvb vb (List.mem_of_getElem? hvb1)
   have k2 := hrb rp (List.mem_of_getElem? hrp1)
   rw [show v.getD b 0 = vb by rw [List.getD, hvb1]; rfl, show r.getD p 0 = rp by rw [List.getD, hrp1]; rfl] at hgo
   by_cases hbig : vb < a.vol ∨ rp < a.vol
   ·rw [if_pos hbig] at hgo
    rw [hres _ hgo]
    clear hgo hres
    conv => whnf
    repeat' (first|((refine PickE.map p hrp1 (by omega) ?_);conv=>whnf)|((refine PickE.map b hvb1 (by omega) ?_);conv=>whnf)|((with_reducible refine Split.of_true ?_);conv=>whnf)|((with_reducible refine Split.dec (fun _=>?_) (fun _=>?_))<;>conv=>whnf)|((with_reducible refine Need.mk ?_ ?_);(first|omega|rfl|decide|(refine ⟨?_,?_⟩<;>simp<;>omega)|(simp;omega));conv=>whnf)|((with_reducible refine Wr.inr ?_ ?_);(first|omega|(simp;omega));conv=>whnf)|(exfalso;first|omega|contradiction)|fail)
    all_goals first
     | rfl
     |(exfalso; omega)
   ·rw [if_neg hbig] at hgo
    have hmp1 : sn.map prD ++ [D.agg [iD (b : Int), iD (p : Int)]] = (sn ++ [((b : Int), (p : Int))]).map prD := by simp [prD]
    have hmp2 : (v.map iD).set (b : Int).toNat (iD (vb - a.vol)) = (v.set b (vb - a.vol)).map iD := by rw [Int.toNat_natCast, List.map_set]
    have hmp3 : (r.map iD).set (p : Int).toNat (iD (rp - a.vol)) = (r.set p (rp - a.vol)).map iD := by rw [Int.toNat_natCast, List.map_set]
    conv => whnf
    repeat' (first|((refine PickE.map p hrp1 (by omega) ?_);conv=>whnf)|((refine PickE.map b hvb1 (by omega) ?_);conv=>whnf)|((with_reducible refine Split.of_true ?_);conv=>whnf)|((with_reducible refine Split.dec (fun _=>?_) (fun _=>?_))<;>conv=>whnf)|((with_reducible refine Need.mk ?_ ?_);(first|omega|rfl|decide|(refine ⟨?_,?_⟩<;>simp<;>omega)|(simp;omega));conv=>whnf)|((with_reducible refine Wr.inr ?_ ?_);(first|omega|(simp;omega));conv=>whnf)|(exfalso;first|omega|contradiction)|fail)
    all_goals first
     |(exfalso; omega)
     | skip
    refine Again.av (i + 1, v.set b (vb - a.vol), r.set p (rp - a.vol), sn ++ [((b : Int), (p : Int))]) ⟨by dsimp only;omega, hgo, by rw [List.length_set];exact hvl, by rw [List.length_set];exact hrl, by simp;omega, fun q hq => ?_, fun q hq => ?_⟩ (by dsimp only;omega) (by refine ⟨?_, ?_, rfl⟩<;>(repeat' (first|exact True.intro|exact rfl|(refine ⟨?_,?_⟩)|(intro h;cases h;done)|(refine own_congr ?_;simp;done)|exact hmp1|exact hmp2|exact hmp3|fail));done)
    ·rcases List.mem_or_eq_of_mem_set hq with h1 | h1
     ·exact hvb q h1
     ·omega
    ·rcases List.mem_or_eq_of_mem_set hq with h1 | h1
     ·exact hrb q h1
     ·omega
 ·rw [List.drop_eq_nil_of_le (show x.length ≤ i by omega), asgGo] at hgo
  rw [hres _ hgo]
  have w4 := ev_ContainsIf v 118 (fun z => z != 0) (by omega) (fun z _ => ev_assigned1 z)
  dsimp only
  conv => whnf
  repeat' (first|((with_reducible refine Split.dec (fun _=>?_) (fun _=>?_))<;>conv=>whnf)|((with_reducible refine Need.mk ?_ ?_);(first|omega|rfl|decide|(refine ⟨?_,?_⟩<;>simp<;>omega)|(simp;omega));conv=>whnf)|((with_reducible refine AltK.l ?_);(conv=>whnf);(first|(refine CallK.mk _ (w4) ?_));conv=>whnf)|(exfalso;first|omega|contradiction)|fail)
  all_goals first
   | rfl
   |(exfalso; omega)
end Go.Proofs.Try
end

section
namespace Go.Proofs.Try
open Go Go.Vm
set_option maxRecDepth 20000
structure Solved (y : Yd) (l : List Bt) (fl : List (List Int)) (t : Tf) : Prop where
 ok : FlOk (accF y l) y.pits.length l.length (volF y l) (roomF y) fl
 shut : ∀ p, p < y.pits.length → Shut (accF y l) y.pits.length l.length (volF y l) (roomF y) fl p
 ti : TfI (accF y l) y.pits.length l.length (roomF y) (priceF y) fl t
 bb : ∀ x ∈ t.bs, 0 ≤ x ∧ x ≤ 10000
 pb : ∀ x ∈ t.ps, 0 ≤ x ∧ x ≤ 10000
 tf : ∀ b, b < l.length → ∀ p, p < y.pits.length → TF (accF y l) (priceF y) fl t b p
theorem ev_CheapestRun {y : Yd} {l : List Bt} (hs : smallP y) (h0 : lstE y l = 0) : ∃ fl k t, fillsF (accF y l) y.pits.length l.length 20 k (volF y l) (roomF y) (ordF y) (flow0 y l) = some fl ∧ Solved y l fl t ∧
 Ev Try.prog 49 [ydD y, .sl 5 (l.map btD)] (.tup [frD (if doneF l.length (volF y l) fl = true then ⟨allF y l fl l.length, costF y (allF y l fl l.length), t⟩ else fr0), iD (if doneF l.length (volF y l) fl = true then 0 else 19)]) := by
 have hO := ls_ok h0
 obtain ⟨fl, k, h1, h2, h3, m, t, t1, t2, t3, t4, t5⟩ := cheap_run hO
 refine ⟨fl, k, t, h1, ⟨h2, h3, t2, t3, t4, t5⟩, ?_⟩
 cases hd : doneF l.length (volF y l) fl with
 | false =>
  rw [if_neg (by decide), if_neg (by decide)]
  exact ev_CheapestFull hs h0 (by decide) h1 hd
 | true =>
  rw [if_pos rfl, if_pos rfl]
  exact ev_CheapestOk hs h0 (by decide) h1 hd t1 (all_ok hO h2) (cost_bd hO h2)
end Go.Proofs.Try
end

section
namespace Go.Proofs.Try
open Go Go.Vm
set_option maxRecDepth 20000
theorem bk_ten {y : Yd} (h : ydErr y = 0) : ∀ f ∈ y.bulk, f.num ≤ 10 * f.den := by
 unfold ydErr at h
 split at h
 ·cases h
 split at h
 ·contradiction
 split at h
 ·cases h
 split at h
 ·contradiction
 rename_i h2
 have z2 := nmGo_zero (show nmGo Bk.soil bkErr [] y.bulk = 0 by simpa using h2)
 intro f hf
 have h := (z2 f hf).1
 unfold bkErr at h
 split at h
 ·cases h
 rename_i h1
 simp [outsideB] at h1
 omega
theorem volsGo_13 {y : Yd} (ht : ∀ f ∈ y.bulk, f.num ≤ 10 * f.den) : ∀ {l : List Bt} {c : List Int}, (∀ b ∈ l, ∃ k f z, Wok y b k f z) → CarOk y c → ∀ v ∈ volsGo y c l, v ≤ 10000000000000
 | [], _, _, _ => by simp [volsGo]
 | b :: r, c, h, hc => by
  obtain ⟨k, f, z0, hW⟩ := h b (by simp)
  obtain ⟨z, hz⟩ := some_of_lt (show k < c.length by rw [hc.len]; exact lt_of_some hW.fat)
  have hzb := hc.at_ k f z hW.fat hz
  have hden := hW.fo.den
  have hnum := hW.fo.num
  have hten := ht f (List.mem_of_getElem? hW.fat)
  have hbed := hW.bok.bed
  have hov := hW.bok.over
  have ek : (facI y b.soil).toNat = k := by rw [hW.ixk]; rfl
  have ef : bkAt y k = f := by rw [bkAt, List.getD, hW.fat]; rfl
  have ec : c.getD k 0 = z := by rw [List.getD, hz]; rfl
  have hcar := carN_bd (b := b) (f := f) (c := z) hW.bok hW.fo hzb
  have ih := volsGo_13 ht (l := r) (c := c.set k (carN b f z)) (fun x hx => h x (List.mem_cons_of_mem _ hx)) (hc.set hW.fat hcar)
  rw [volsGo, ek, ef, ec]
  intro v hv
  rcases List.mem_cons.1 hv with rfl | hv
  ·have h1 : (b.bed - b.over) * f.num ≤ 1000000000000 * (10 * f.den) := Int.mul_le_mul (by omega) (by omega) (by omega) (by decide)
   have h2 : ((b.bed - b.over) * f.num + z) / f.den < 10000000000001 := Int.ediv_lt_of_lt_mul (by omega) (by omega)
   unfold volN
   omega
  ·exact ih v hv
theorem vol_13 {y : Yd} {l : List Bt} (h : LsOk y l) (b : Nat) : (volF y l).getD b 0 ≤ 10000000000000 := by
 have hy := yd_ok h.yd
 have h1 := volsGo_13 (bk_ten h.yd) h.wok ⟨hy.carL, hy.car⟩
 have h2 := (volsGo_spec h.wok ⟨hy.carL, hy.car⟩).2
 exact (getD_bd9 (fun x hx => ⟨(h2 x hx).1, h1 x hx⟩) (by decide) b).2
theorem cost_swap {P L : Nat} {pr : Nat → Int} {fl : List (List Int)} {room : List Int} (hd : Dim P L fl) : costS P L pr fl = sumN P fun p => (room.getD p 0 - freeF room fl p) * pr p := by
 unfold costS
 rw [sumN_swap]
 refine sumN_congr fun p _ => ?_
 rw [sumN_mul, free_sum hd]
 congr 1
 omega
theorem costS_bd {y : Yd} {l : List Bt} {fl : List (List Int)} (h : LsOk y l) (hf : FlOk (accF y l) y.pits.length l.length (volF y l) (roomF y) fl) : costS y.pits.length l.length (priceF y) fl ≤ 9000000000000000000 := by
 have hy := yd_ok h.yd
 rw [cost_swap hf.dim (room := roomF y)]
 have := sumN_bd (f := fun p => ((roomF y).getD p 0 - freeF (roomF y) fl p) * priceF y p) (M := 400000000000000000) (n := y.pits.length) fun p hp => by
  have h1 := hf.fr p hp
  have h2 := room_bd hy p
  have h3 := priceF_bd hy p
  have h4 : 0 ≤ (roomF y).getD p 0 - freeF (roomF y) fl p := by
   rw [free_sum hf.dim]
   have := sumN_nn (f := fun b => cellZ fl b p) (n := l.length) fun b _ => hf.nn b p
   omega
  have := Int.mul_le_mul (show (roomF y).getD p 0 - freeF (roomF y) fl p ≤ 40000000000000 by omega) (show priceF y p ≤ 10000 by omega) (by omega) (by decide)
  omega
 have := hy.pits
 omega
theorem sumA_one {q : Al → Bool} : ∀ {x : List Al} {a : Al}, (∀ c ∈ x, 0 < c.vol) → a ∈ x → q a = true → a.vol ≤ sumA q x
 | [], _, _, h, _ => by cases h
 | c :: r, a, hp, h, hq => by
  rw [sumA_cons]
  have h1 := sumA_nn (q := q) (x := r) fun d hd => hp d (List.mem_cons_of_mem _ hd)
  have h2 := hp c List.mem_cons_self
  rcases List.mem_cons.1 h with rfl | h
  ·rw [if_pos hq]; omega
  ·have := sumA_one (fun d hd => hp d (List.mem_cons_of_mem _ hd)) h hq
   split <;> omega
theorem chr_bd {y : Yd} {l : List Bt} {x : List Al} (h : LsOk y l) (hc : Chr (accF y l) (atI l) (pitI y) y.pits.length l.length (fun b => (volF y l).getD b 0) (fun p => (roomF y).getD p 0) [] x) :
 (∀ a ∈ x, 0 ≤ pitI y a.pit ∧ 0 ≤ a.vol ∧ a.vol ≤ 100000000000000000) ∧ costF y x ≤ 9000000000000000000 := by
 refine ⟨fun a ha => ?_, ?_⟩
 ·have hv := hc.ok a ha
  have k1 := hv.b
  have k2 := hv.p
  have k3 := hv.v
  have l1 : atI l a.n < l.length := ix_lt
  have h1 := hc.sb (atI l a.n).toNat (by omega)
  have h2 := sumA_one (q := fun c => atI l c.n == ((atI l a.n).toNat : Int)) (fun c hc' => (hc.ok c hc').v) ha (by simp; omega)
  have h3 := vol_13 h (atI l a.n).toNat
  omega
 ·obtain ⟨fl, h1, -, h3⟩ := chr_flow hc
  rw [← h3]
  exact costS_bd h h1
/-! A tariff. -/
def inR (v : Int) : Bool := decide (0 ≤ v) && decide (v ≤ 20000)
theorem inR_iff {v : Int} : inR v = true ↔ 0 ≤ v ∧ v ≤ 20000 := by simp [inR]
section
variable {acc : Nat → Nat → Bool} {P L : Nat} {pr : Nat → Int} {bs ps : List Int}
def yldB (acc : Nat → Nat → Bool) (P L : Nat) (pr : Nat → Int) (bs ps : List Int) : Bool :=
 decide (bs.length = L) && decide (ps.length = P) && ps.all inR && bs.all inR && (List.range L).all fun b => (List.range P).all fun p => !acc p b || decide (bs.getD b 0 ≤ pr p + ps.getD p 0)
structure Yld (acc : Nat → Nat → Bool) (P L : Nat) (pr : Nat → Int) (bs ps : List Int) : Prop where
 bl : bs.length = L
 pl : ps.length = P
 pb : ∀ v ∈ ps, 0 ≤ v ∧ v ≤ 20000
 bb : ∀ v ∈ bs, 0 ≤ v ∧ v ≤ 20000
 ac : ∀ b, b < L → ∀ p, p < P → acc p b = true → bs.getD b 0 ≤ pr p + ps.getD p 0
theorem yld_iff : yldB acc P L pr bs ps = true ↔ Yld acc P L pr bs ps := by
 simp only [yldB, Bool.and_eq_true, decide_eq_true_eq, List.all_eq_true, inR_iff, List.mem_range, Bool.or_eq_true, Bool.not_eq_true']
 constructor
 ·rintro ⟨⟨⟨⟨h1, h2⟩, h3⟩, h4⟩, h5⟩
  refine ⟨h1, h2, h3, h4, fun b hb p hp ha => ?_⟩
  rcases h5 b hb p hp with h | h
  ·rw [ha] at h; cases h
  ·exact h
 ·intro h
  refine ⟨⟨⟨⟨h.bl, h.pl⟩, h.pb⟩, h.bb⟩, fun b hb p hp => ?_⟩
  cases ha : acc p b with
  | false => exact .inl rfl
  | true => exact .inr (h.ac b hb p hp ha)
theorem yld_no (h : ¬ Yld acc P L pr bs ps) : yldB acc P L pr bs ps = false := by
 rw [← yld_iff, Bool.not_eq_true] at h; exact h
end
def prvB (y : Yd) (l : List Bt) (f : Frt) : Bool :=
 asgB (accF y l) (atI l) (pitI y) (volF y l) (roomF y) f.xs && decide (costF y f.xs = f.cost) && yldB (accF y l) y.pits.length l.length (priceF y) f.tf.bs f.tf.ps && decide (yieldS y.pits.length l.length (volF y l) (roomF y) f.tf.bs f.tf.ps = f.cost)
theorem asg_ra {y : Yd} {l : List Bt} (h : LsOk y l) (x : List Al) : asgB (accF y l) (atI l) (pitI y) (volF y l) (roomF y) x = raB (accF y l) (atI l) (pitI y) y.pits.length (volF y l) (roomF y) x := by
 have hy := yd_ok h.yd
 have e1 : (volF y l).length = l.length := (volsGo_spec h.wok ⟨hy.carL, hy.car⟩).1
 have e2 : (roomF y).length = y.pits.length := by rw [roomF, List.length_map]
 rw [Bool.eq_iff_iff, asgB_chr (P := y.pits.length) (L := l.length) atI_ok.lt (fun s => pitI_lt s) e1 e2 (fun p _ => (room_bd hy p).1), raB_chr (L := l.length) at_inj atI_ok.lt (fun s => pitI_lt s) e1 e2]
theorem asg_chr9 {y : Yd} {l : List Bt} (h : LsOk y l) (x : List Al) : asgB (accF y l) (atI l) (pitI y) (volF y l) (roomF y) x = true ↔ Chr (accF y l) (atI l) (pitI y) y.pits.length l.length (fun b => (volF y l).getD b 0) (fun p => (roomF y).getD p 0) [] x := by
 have hy := yd_ok h.yd
 exact asgB_chr (P := y.pits.length) (L := l.length) atI_ok.lt (fun s => pitI_lt s) (volsGo_spec h.wok ⟨hy.carL, hy.car⟩).1 (by rw [roomF, List.length_map]) (fun p _ => (room_bd hy p).1) x
section
variable {y : Yd} {l : List Bt} {fl : List (List Int)} {t : Tf}
theorem left_done (h : FlOk (accF y l) y.pits.length l.length (volF y l) (roomF y) fl) (hd : doneF l.length (volF y l) fl = true) : ∀ b, b < l.length → leftF (volF y l) fl b = 0 := fun b hb => by
 have h1 := done_iff.1 hd b hb
 have h2 := h.lf b hb
 omega
theorem chr_done {x : List Al} (hf : FlOk (accF y l) y.pits.length l.length (volF y l) (roomF y) fl) (hs : ∀ p, p < y.pits.length → Shut (accF y l) y.pits.length l.length (volF y l) (roomF y) fl p)
 (hc : Chr (accF y l) (atI l) (pitI y) y.pits.length l.length (fun b => (volF y l).getD b 0) (fun p => (roomF y).getD p 0) [] x) : doneF l.length (volF y l) fl = true := by
 cases hd : doneF l.length (volF y l) fl with
 | true => rfl
 | false =>
  obtain ⟨w, -, -, h1⟩ := is_cut hf hs hd (Nat.le_refl l.length)
  obtain ⟨f2, g1, g2, -⟩ := chr_flow hc
  have := no_cut g1 (done_iff.2 fun b hb => by rw [g2 b hb]; exact Int.le_refl _) (hasN w.bs)
  omega
theorem cost_all9 (h : LsOk y l) (hf : FlOk (accF y l) y.pits.length l.length (volF y l) (roomF y) fl) : costF y (allF y l fl l.length) = costS y.pits.length l.length (priceF y) fl := cost_all h.yd hf.nn l.length
theorem solved_yld (h : Solved y l fl t) : Yld (accF y l) y.pits.length l.length (priceF y) t.bs t.ps := ⟨h.ti.bl, h.ti.pl, fun v hv => by have := h.pb v hv; omega, fun v hv => by have := h.bb v hv; omega, fun b hb p hp ha => (h.tf b hb p hp ha).1⟩
theorem solved_cost (hO : LsOk y l) (h : Solved y l fl t) (hd : doneF l.length (volF y l) fl = true) : yieldS y.pits.length l.length (volF y l) (roomF y) t.bs t.ps = costF y (allF y l fl l.length) := by
 rw [cost_all9 hO h.ok]
 exact yield_strong h.ok (left_done h.ok hd) h.ti (fun p hp => by
  have := getD_bd9 (M := 10000) h.pb (by decide) p
  exact this.1) h.tf
theorem yld_cheap {bs ps : List Int} (hy : Yld (accF y l) y.pits.length l.length (priceF y) bs ps) {x : List Al} (hc : Chr (accF y l) (atI l) (pitI y) y.pits.length l.length (fun b => (volF y l).getD b 0) (fun p => (roomF y).getD p 0) [] x) :
 yieldS y.pits.length l.length (volF y l) (roomF y) bs ps ≤ costF y x := by
 obtain ⟨f2, g1, g2, g3⟩ := chr_flow hc
 rw [← g3]
 exact yield_weak g1 g2 bs ps (fun p hp => (getD_bd9 (M := 20000) hy.pb (by decide) p).1) hy.ac
end
end Go.Proofs.Try
end

section
namespace Go.Proofs.Try
open Go Go.Vm
set_option maxRecDepth 20000
set_option maxHeartbeats 8000000
theorem xv_Volumes (y : Yd) (l : List Bt) (c : List Int) (hb : y.bulk.length ≤ 1000) (hl : l.length ≤ 100000) (hw : ∀ b ∈ l, ∃ k f z, Wok y b k f z) (hc : CarOk y c) :
 EvX Try.prog 84 [.d (ydD y), .d (.sl 5 (l.map btD)), .d (.sl 1 (c.map iD))] [] (.own 9 1 ((volsGo y c l).map iD).length) [(9, .row 3 1 ((volsGo y c l).map iD) false)] := by
 have hll : (l.map btD).length = l.length := List.length_map _
 have hcl := hc.len
 have hX := EvX.new1 (xs := [.sl 1 (c.map iD)]) (xv_CopyInts9 c (by omega)) 13
 generalize hV : volsGo y c l = V
 refine evx_of_awp tysOk mixed (fn := Try.f84) Try.func84 rfl rfl rfl ?_
 conv => whnf
 repeat' (first|((with_reducible refine AltK.r ?_);(conv=>whnf);(first|(refine CallX.mk _ _ (hX) rfl ?_));conv=>whnf)|fail)
 refine LoopK.o2 (fun x : Nat × List Int × List Int => x.1 ≤ l.length ∧ V = x.2.2 ++ volsGo y x.2.1 (l.drop x.1) ∧ x.2.2.length = x.1 ∧ CarOk y x.2.1) (fun x => [(8, .d (iD x.1)), (7, .own 200 1 (x.2.2.map iD).length)])
  (fun x => [(200, .row 3 1 (x.2.2.map iD) false), (13, .row 3 1 (x.2.1.map iD) false)]) (fun x => l.length - x.1) (0, c, []) ⟨by omega, hV.symm, rfl, hc⟩ (by refine ⟨?_, ?_, rfl⟩<;>(repeat' (first|exact True.intro|exact rfl|(refine ⟨?_,?_⟩)|(intro h;cases h;done)|fail));done) ?_
 rintro ⟨i, c', pre⟩ ⟨hi, hv, hpl, hc'⟩
 dsimp only at hi hv hpl hc' ⊢
 have hcl' := hc'.len
 have hpm : (pre.map iD).length = pre.length := List.length_map _
 have hcm : (c'.map iD).length = c'.length := List.length_map _
 by_cases hil : i < l.length
 ·obtain ⟨b, hbt⟩ := some_of_lt hil
  obtain ⟨k, f, z0, hW⟩ := hw b (List.mem_of_getElem? hbt)
  have hkl := lt_of_some hW.fat
  obtain ⟨z, hz⟩ := some_of_lt (show k < c'.length by rw [hcl']; exact hkl)
  have hzb := hc'.at_ k f z hW.fat hz
  have ek : (facI y b.soil).toNat = k := by rw [hW.ixk]; rfl
  have ef : bkAt y k = f := by rw [bkAt, List.getD, hW.fat]; rfl
  have ec : c'.getD k 0 = z := by rw [List.getD, hz]; rfl
  rw [drop_of hbt, volsGo, ek, ef, ec] at hv
  have hcar := carN_bd (b := b) (f := f) (c := z) hW.bok hW.fo hzb
  have w1 : Ev Try.prog 18 [.sl 3 (y.bulk.map bkD), .str b.soil] (iD (facI y b.soil)) := ev_Factor9 y.bulk b.soil (by omega)
  rw [hW.ixk] at w1
  have w2 := ev_Bulked9c hW hzb
  generalize volN b f z = v at *
  generalize carN b f z = cn at *
  have hmp1 : (c'.map iD).set (k : Int).toNat (iD cn) = (c'.set k cn).map iD := by rw [Int.toNat_natCast, List.map_set]
  conv => whnf
  repeat' (first|((refine PickE.map k hz (by omega) ?_);conv=>whnf)|((refine PickE.map i hbt (by omega) ?_);conv=>whnf)|((with_reducible refine Split.dec (fun _=>?_) (fun _=>?_))<;>conv=>whnf)|((with_reducible refine Need.mk ?_ ?_);(first|omega|rfl|decide|(refine ⟨?_,?_⟩<;>simp<;>omega)|(simp;omega));conv=>whnf)|((with_reducible refine Wr.inr ?_ ?_);(first|omega|(simp;omega));conv=>whnf)|((with_reducible refine AltK.l ?_);(conv=>whnf);(first|(refine CallK.mk _ (w1) ?_)|(refine CallK.mk _ (w2) ?_));conv=>whnf)|(exfalso;first|omega|contradiction)|fail)
  refine Again.au (i + 1, c'.set k cn, pre ++ [v]) ⟨by dsimp only; omega, by rw [hv]; simp, by simp only [List.length_append, List.length_singleton]; omega, hc'.set hW.fat hcar⟩ (by dsimp only; omega) ?_
  dsimp only
  exact (by refine ⟨?_, ?_, rfl⟩<;>(repeat' (first|exact True.intro|exact rfl|(refine ⟨?_,?_⟩)|(intro h;cases h;done)|exact map_snoc|(refine own_congr ?_;simp;done)|(simp;done)|fail));done)
 ·have hie : i = l.length := by omega
  subst hie
  rw [List.drop_length, volsGo, List.append_nil] at hv
  rw [hv]
  conv => whnf
  repeat' (first|((with_reducible refine Split.dec (fun _=>?_) (fun _=>?_))<;>conv=>whnf)|((with_reducible refine Need.mk ?_ ?_);(first|omega|rfl|decide|(refine ⟨?_,?_⟩<;>simp<;>omega)|(simp;omega));conv=>whnf)|(exfalso;first|omega|contradiction)|fail)
  exact ⟨⟨[(9, some 200)], (by refine ⟨?_, ?_, rfl⟩<;>(repeat' (first|exact True.intro|exact rfl|(refine ⟨?_,?_⟩)|(intro h;cases h;done)|fail));done)⟩, rfl⟩
theorem raGo_at {acc : Nat → Nat → Bool} {ib : Int → Int} {ip : ByteArray → Int} {v tk : List Int} {x : List Al} {i : Nat} {a : Al} (h : x[i]? = some a) : raGo acc ib ip v tk (x.take i) (x.drop i) =
 if ib a.n < 0 ∨ ip a.pit < 0 then none
 else if acc (ip a.pit).toNat (ib a.n).toNat = false then none
 else if a.vol < 1 ∨ v.getD (ib a.n).toNat 0 < a.vol then none
 else if (x.take i).any (fun x => x.n == a.n && sEq x.pit a.pit) = true then none
 else raGo acc ib ip (v.set (ib a.n).toNat (v.getD (ib a.n).toNat 0 - a.vol)) (tk.set (ip a.pit).toNat (tk.getD (ip a.pit).toNat 0 + a.vol)) (x.take (i + 1)) (x.drop (i + 1)) := by
 rw [drop_of h, raGo, take_snoc h]
theorem any_no9 {α : Type} {p : α → Bool} {l : List α} (h : ∀ c ∈ l, p c = false) : ¬ l.any p = true := by
 rw [Bool.not_eq_true, List.any_eq_false]
 intro c hc
 rw [h c hc]; decide
theorem ev_Assigned9 {y : Yd} {l : List Bt} (hO : LsOk y l) (hcl : ∀ p ∈ y.pits, p.cls.length ≤ 1000000) (x : List Al) (hn : x.length ≤ 200) :
 Ev Try.prog 48 [ydD y, .sl 5 (l.map btD), .sl 3 (x.map alD)] (.bool (raB (accF y l) (atI l) (pitI y) y.pits.length (volF y l) (roomF y) x)) := by
 have hy := yd_ok hO.yd
 have hlen := hO.len
 have hP8 := hy.pits
 have hb20 := hy.bulk
 have hlp : (y.pits.map ptD).length = y.pits.length := List.length_map _
 have hll : (l.map btD).length = l.length := List.length_map _
 have hlx : (x.map alD).length = x.length := List.length_map _
 have hV := EvX.new1 (xs := [ydD y, .sl 5 (l.map btD), .sl 1 (y.carry.map iD)]) (xv_Volumes y l y.carry (by omega) (by omega) hO.wok ⟨hy.carL, hy.car⟩) 19
 obtain ⟨hvl, hvb⟩ := volsGo_spec hO.wok ⟨hy.carL, hy.car⟩
 have hro : ∀ p, (h : p < y.pits.length) → Ev Try.prog 41 [ydD y, iD p] (iD ((roomF y).getD p 0)) := fun p h => by
  obtain ⟨q, hq⟩ := some_of_lt h
  have h1 := ev_Room9 y hq (hy.pit q (List.mem_of_getElem? hq)).1 hy.vol (by have := hy.deps; omega)
  have e : (roomF y).getD p 0 = roomS y q := by rw [roomF, List.getD, List.getElem?_map, hq]; rfl
  rw [e]; exact h1
 have hrb := room_bd hy
 rw [show volsGo y y.carry l = volF y l from rfl] at hV hvl hvb
 generalize volF y l = vol at *
 generalize roomF y = room at *
 have hvm : (vol.map iD).length = vol.length := List.length_map _
 have hres : ∀ r, raGo (accF y l) (atI l) (pitI y) vol (List.replicate y.pits.length 0) [] x = r → raB (accF y l) (atI l) (pitI y) y.pits.length vol room x = match r with
  | none => false
  | some r => (!r.1.any fun z => z != 0) && !(List.range y.pits.length).any fun p => decide (room.getD p 0 < r.2.getD p 0) := fun r hr => by subst hr; rfl
 generalize raB (accF y l) (atI l) (pitI y) y.pits.length vol room x = res at *
 have hrp0 : ∀ q ∈ List.replicate y.pits.length (0 : Int), 0 ≤ q ∧ q ≤ ((0 : Nat) : Int) * 10000000000001000 := fun q hq => by rw [(List.mem_replicate.1 hq).2]; simp
 have hmp0 : List.replicate ((y.pits.map ptD).length : Int).toNat (D.int .i64 0) = (List.replicate y.pits.length (0 : Int)).map iD := by rw [Int.toNat_natCast, List.length_map, List.map_replicate]; rfl
 refine ev_of_awp tysOk mixed (fn := Try.f48) Try.func48 rfl rfl rfl ?_
 conv => whnf
 repeat' (first|((with_reducible refine Need.mk ?_ ?_);(first|omega|rfl|decide|(refine ⟨?_,?_⟩<;>simp<;>omega)|(simp;omega));conv=>whnf)|((with_reducible refine AltK.r ?_);(conv=>whnf);(first|(refine CallX.mk _ _ (hV) rfl ?_));conv=>whnf)|fail)
 refine LoopK.o3 (fun z : Nat × List Int × List Int => z.1 ≤ x.length ∧ raGo (accF y l) (atI l) (pitI y) vol (List.replicate y.pits.length 0) [] x = raGo (accF y l) (atI l) (pitI y) z.2.1 z.2.2 (x.take z.1) (x.drop z.1) ∧ z.2.1.length = l.length ∧ z.2.2.length = y.pits.length ∧ (∀ q ∈ z.2.1, 0 ≤ q ∧ q ≤ 10000000000001000) ∧ (∀ q ∈ z.2.2, 0 ≤ q ∧ q ≤ (z.1 : Int) * 10000000000001000))
  (fun z => [(9, .d (iD z.1)), (7, .own 19 1 l.length), (8, .own 23 1 y.pits.length)]) (fun z => [(19, .row 3 1 (z.2.1.map iD) false), (23, .row 3 1 (z.2.2.map iD) false)]) (fun z => x.length - z.1)
  (0, vol, List.replicate y.pits.length 0) ⟨by omega, rfl, hvl, List.length_replicate .., hvb, hrp0⟩ (by refine ⟨?_, ?_, rfl⟩<;>(repeat' (first|exact True.intro|exact rfl|(refine ⟨?_,?_⟩)|(intro h;cases h;done)|(refine own_congr ?_;simp;done)|exact hmp0|((first|refine own_congr ?_|refine int_congr ?_|skip);simp [hvl];done)|fail));done) ?_
 clear hmp0 hrp0
 rintro ⟨i, v, tk⟩ ⟨hi, hgo, hvl', htl, hvb', htb⟩
 dsimp only at hi hgo hvl' htl hvb' htb ⊢
 have hvm' : (v.map iD).length = v.length := List.length_map _
 have htm : (tk.map iD).length = tk.length := List.length_map _
 by_cases hil : i < x.length
 ·obtain ⟨a, ha⟩ := some_of_lt hil
  have hxD : (x.map alD)[(i : Int).toNat]? = some (D.agg [iD a.n, .str a.pit, iD a.vol]) := by rw [Int.toNat_natCast, List.getElem?_map, ha]; rfl
  have w1 := ev_At9 l a.n (by omega)
  have w2 : Ev Try.prog 39 [.sl 6 (y.pits.map ptD), .str a.pit] (iD (pitI y a.pit)) := ev_Find9 y.pits a.pit (by omega)
  rw [raGo_at ha] at hgo
  have l1 : atI l a.n < l.length := ix_lt
  have l2 : pitI y a.pit < y.pits.length := ix_lt
  by_cases hc0 : atI l a.n < 0 ∨ pitI y a.pit < 0
  ·rw [if_pos hc0] at hgo
   rw [hres _ hgo]
   clear hgo hres
   generalize atI l a.n = bi at *
   generalize pitI y a.pit = pi at *
   conv => whnf
   repeat' (first|((refine PickE.mk _ hxD ?_);conv=>whnf)|((with_reducible refine Split.of_true ?_);conv=>whnf)|((with_reducible refine Split.dec (fun _=>?_) (fun _=>?_))<;>conv=>whnf)|((with_reducible refine Need.mk ?_ ?_);(first|omega|rfl|decide|(refine ⟨?_,?_⟩<;>simp<;>omega)|(simp;omega));conv=>whnf)|((with_reducible refine AltK.l ?_);(conv=>whnf);(first|(refine CallK.mk _ (w1) ?_)|(refine CallK.mk _ (w2) ?_));conv=>whnf)|(exfalso;first|omega|contradiction)|fail)
   all_goals first
    | rfl
    |(exfalso; omega)
  rw [if_neg hc0] at hgo
  obtain ⟨b, hb⟩ : ∃ b : Nat, atI l a.n = b := ⟨(atI l a.n).toNat, by omega⟩
  obtain ⟨p, hp⟩ : ∃ p : Nat, pitI y a.pit = p := ⟨(pitI y a.pit).toNat, by omega⟩
  rw [hb, hp] at hgo hc0
  rw [hb] at w1 l1
  rw [hp] at w2 l2
  simp only [Int.toNat_natCast] at hgo
  clear hb hp
  obtain ⟨q, hq⟩ := some_of_lt (show p < y.pits.length by omega)
  obtain ⟨bt, hbt⟩ := some_of_lt (show b < l.length by omega)
  have w3 := ev_Accepts9 q bt.cls (hcl q (List.mem_of_getElem? hq))
  have eA : accF y l p b = accB q bt.cls := by rw [accF, hq, hbt]
  rw [eA] at hgo
  obtain ⟨vb, hvb1⟩ := some_of_lt (show b < v.length by omega)
  obtain ⟨tp, htp1⟩ := some_of_lt (show p < tk.length by omega)
  have k1 := hvb' vb (List.mem_of_getElem? hvb1)
  have k2 := htb tp (List.mem_of_getElem? htp1)
  rw [show v.getD b 0 = vb by rw [List.getD, hvb1]; rfl, show tk.getD p 0 = tp by rw [List.getD, htp1]; rfl] at hgo
  cases hac : accB q bt.cls with
  | false =>
   rw [hac, if_pos rfl] at hgo
   rw [hac] at w3
   rw [hres _ hgo]
   clear hgo hres
   conv => whnf
   repeat' (first|((refine PickE.map b hbt (by omega) ?_);conv=>whnf)|((refine PickE.map p hq (by omega) ?_);conv=>whnf)|((refine PickE.mk _ hxD ?_);conv=>whnf)|((with_reducible first|refine Split.of_true ?_|refine Split.of_false ?_);conv=>whnf)|(with_reducible refine Split.neg ?_)|((with_reducible refine Split.dec (fun _=>?_) (fun _=>?_))<;>conv=>whnf)|((with_reducible refine Need.mk ?_ ?_);(first|omega|rfl|decide|(refine ⟨?_,?_⟩<;>simp<;>omega)|(simp;omega));conv=>whnf)|((with_reducible refine AltK.l ?_);(conv=>whnf);(first|(refine CallK.mk _ (w1) ?_)|(refine CallK.mk _ (w2) ?_)|(refine CallK.mk _ (w3) ?_));conv=>whnf)|(exfalso;first|omega|contradiction)|fail)
   all_goals first
    | rfl
    |(exfalso; omega)
  | true =>
  rw [hac, if_neg (by decide)] at hgo
  rw [hac] at w3
  by_cases hbig : a.vol < 1 ∨ vb < a.vol
  ·rw [if_pos hbig] at hgo
   rw [hres _ hgo]
   clear hgo hres
   conv => whnf
   repeat' (first|((refine PickE.map b hvb1 (by omega) ?_);conv=>whnf)|((refine PickE.map b hbt (by omega) ?_);conv=>whnf)|((refine PickE.map p hq (by omega) ?_);conv=>whnf)|((refine PickE.mk _ hxD ?_);conv=>whnf)|((with_reducible refine Split.of_true ?_);conv=>whnf)|(with_reducible refine Split.neg ?_)|((with_reducible refine Split.dec (fun _=>?_) (fun _=>?_))<;>conv=>whnf)|((with_reducible refine Need.mk ?_ ?_);(first|omega|rfl|decide|(refine ⟨?_,?_⟩<;>simp<;>omega)|(simp;omega));conv=>whnf)|((with_reducible refine AltK.l ?_);(conv=>whnf);(first|(refine CallK.mk _ (w1) ?_)|(refine CallK.mk _ (w2) ?_)|(refine CallK.mk _ (w3) ?_));conv=>whnf)|(exfalso;first|omega|contradiction)|fail)
   all_goals first
    | rfl
    |(exfalso; omega)
  rw [if_neg hbig] at hgo
  conv => whnf
  repeat' (first|((refine PickE.map b hvb1 (by omega) ?_);conv=>whnf)|((refine PickE.map b hbt (by omega) ?_);conv=>whnf)|((refine PickE.map p hq (by omega) ?_);conv=>whnf)|((refine PickE.mk _ hxD ?_);conv=>whnf)|((with_reducible refine Split.of_true ?_);conv=>whnf)|(with_reducible refine Split.neg ?_)|((with_reducible refine Split.dec (fun _=>?_) (fun _=>?_))<;>conv=>whnf)|((with_reducible refine Need.mk ?_ ?_);(first|omega|rfl|decide|(refine ⟨?_,?_⟩<;>simp<;>omega)|(simp;omega));conv=>whnf)|((with_reducible refine AltK.l ?_);(conv=>whnf);(first|(refine CallK.mk _ (w1) ?_)|(refine CallK.mk _ (w2) ?_)|(refine CallK.mk _ (w3) ?_));conv=>whnf)|(exfalso;first|omega|contradiction)|fail)
  all_goals first
   |(exfalso; omega)
   | skip
  refine LoopK.o3 (fun j : Nat => j ≤ i ∧ ∀ c ∈ x.take j, (c.n == a.n && sEq c.pit a.pit) = false) (fun j => [(12, .d (iD j))]) (fun _ => []) (fun j => i - j) 0 ⟨by omega, by simp⟩ (by refine ⟨?_, ?_, rfl⟩<;>(repeat' (first|exact True.intro|exact rfl|(refine ⟨?_,?_⟩)|(intro h;cases h;done)|fail));done) ?_
  rintro j ⟨hj, hjn⟩
  by_cases hjl : j < i
  ·obtain ⟨c, hc⟩ := some_of_lt (show j < x.length by omega)
   have hcD : (x.map alD)[(j : Int).toNat]? = some (D.agg [iD c.n, .str c.pit, iD c.vol]) := by rw [Int.toNat_natCast, List.getElem?_map, hc]; rfl
   have hcm : c ∈ x.take i := List.mem_take_iff_getElem.2 ⟨j, by omega, (List.getElem?_eq_some_iff.1 hc).2⟩
   by_cases hce : c.n = a.n ∧ c.pit = a.pit
   ·have hin : (x.take i).any (fun x => x.n == a.n && sEq x.pit a.pit) = true := List.any_eq_true.2 ⟨c, hcm, by rw [hce.1, hce.2, sEq_self]; simp⟩
    rw [if_pos hin] at hgo
    rw [hres _ hgo]
    clear hgo hres
    obtain ⟨h3, h4⟩ := hce
    conv => whnf
    repeat' (first|((refine PickE.mk _ hxD ?_);conv=>whnf)|((refine PickE.mk _ hcD ?_);conv=>whnf)|((with_reducible refine Split.of_false ?_);conv=>whnf)|((with_reducible refine Split.eqz (fun _=>?_) (fun _=>?_))<;>conv=>whnf)|((with_reducible refine Split.streq (fun _=>?_) (fun _=>?_))<;>conv=>whnf)|((with_reducible refine Split.dec (fun _=>?_) (fun _=>?_))<;>conv=>whnf)|((with_reducible refine Need.mk ?_ ?_);(first|omega|rfl|decide|(refine ⟨?_,?_⟩<;>simp<;>omega)|(simp;omega));conv=>whnf)|((with_reducible refine Wr.inr ?_ ?_);(first|omega|(simp;omega));conv=>whnf)|(exfalso;first|omega|contradiction)|fail)
    all_goals first
     | rfl
     | contradiction
     |(exfalso; omega)
   ·have hcf : (c.n == a.n && sEq c.pit a.pit) = false := by
     by_cases h3 : c.n = a.n
     ·rw [sEq_ne (fun h => hce ⟨h3, h⟩), Bool.and_false]
     ·rw [show (c.n == a.n) = false by simpa using h3, Bool.false_and]
    conv => whnf
    repeat' (first|((refine PickE.mk _ hxD ?_);conv=>whnf)|((refine PickE.mk _ hcD ?_);conv=>whnf)|((with_reducible refine Split.of_false ?_);conv=>whnf)|((with_reducible refine Split.eqz (fun _=>?_) (fun _=>?_))<;>conv=>whnf)|((with_reducible refine Split.streq (fun _=>?_) (fun _=>?_))<;>conv=>whnf)|((with_reducible refine Split.dec (fun _=>?_) (fun _=>?_))<;>conv=>whnf)|((with_reducible refine Need.mk ?_ ?_);(first|omega|rfl|decide|(refine ⟨?_,?_⟩<;>simp<;>omega)|(simp;omega));conv=>whnf)|((with_reducible refine Wr.inr ?_ ?_);(first|omega|(simp;omega));conv=>whnf)|(exfalso;first|omega|contradiction)|fail)
    all_goals first
     |(exfalso; exact hce ⟨by assumption, by assumption⟩)
     | skip
    all_goals refine Again.av (j + 1) ⟨by omega, fun z hz => ?_⟩ (by omega) (by refine ⟨?_, ?_, rfl⟩<;>(repeat' (first|exact True.intro|exact rfl|(refine ⟨?_,?_⟩)|(intro h;cases h;done)|fail));done)
    all_goals
     rw [take_snoc hc] at hz
     rcases List.mem_append.1 hz with hz | hz
     ·exact hjn z hz
     ·rw [List.mem_singleton.1 hz]; exact hcf
  ·have hje : j = i := by omega
   subst hje
   rw [if_neg (any_no9 hjn)] at hgo
   have hmp2 : (v.map iD).set (b : Int).toNat (iD (vb - a.vol)) = (v.set b (vb - a.vol)).map iD := by rw [Int.toNat_natCast, List.map_set]
   have hmp3 : (tk.map iD).set (p : Int).toNat (iD (tp + a.vol)) = (tk.set p (tp + a.vol)).map iD := by rw [Int.toNat_natCast, List.map_set]
   conv => whnf
   repeat' (first|((refine PickE.map p htp1 (by omega) ?_);conv=>whnf)|((refine PickE.map b hvb1 (by omega) ?_);conv=>whnf)|((refine PickE.mk _ hxD ?_);conv=>whnf)|((with_reducible refine Split.of_false ?_);conv=>whnf)|((with_reducible refine Split.eqz (fun _=>?_) (fun _=>?_))<;>conv=>whnf)|((with_reducible refine Split.streq (fun _=>?_) (fun _=>?_))<;>conv=>whnf)|((with_reducible refine Split.dec (fun _=>?_) (fun _=>?_))<;>conv=>whnf)|((with_reducible refine Need.mk ?_ ?_);(first|omega|rfl|decide|(refine ⟨?_,?_⟩<;>simp<;>omega)|(simp;omega));conv=>whnf)|((with_reducible refine Wr.inr ?_ ?_);(first|omega|(simp;omega));conv=>whnf)|(exfalso;first|omega|contradiction)|fail)
   all_goals first
    |(exfalso; omega)
    | skip
   refine Again.av (j + 1, v.set b (vb - a.vol), tk.set p (tp + a.vol)) ⟨by dsimp only;omega, hgo, by rw [List.length_set];exact hvl', by rw [List.length_set];exact htl, fun q hq => ?_, fun q hq => ?_⟩ (by dsimp only;omega) (by refine ⟨?_, ?_, rfl⟩<;>(repeat' (first|exact True.intro|exact rfl|(refine ⟨?_,?_⟩)|(intro h;cases h;done)|exact hmp2|exact hmp3|fail));done)
   ·rcases List.mem_or_eq_of_mem_set hq with h1 | h1
    ·exact hvb' q h1
    ·omega
   ·dsimp only
    rcases List.mem_or_eq_of_mem_set hq with h1 | h1
    ·have := htb q h1; omega
    ·omega
 ·rw [List.drop_eq_nil_of_le (show x.length ≤ i by omega), raGo] at hgo
  rw [hres _ hgo]
  clear hgo hres
  dsimp only
  conv => whnf
  repeat' (first|((with_reducible refine Split.dec (fun _=>?_) (fun _=>?_))<;>conv=>whnf)|((with_reducible refine Need.mk ?_ ?_);(first|omega|rfl|decide|(refine ⟨?_,?_⟩<;>simp<;>omega)|(simp;omega));conv=>whnf)|(exfalso;first|omega|contradiction)|fail)
  refine LoopK.o3 (fun j : Nat => j ≤ v.length ∧ ∀ c ∈ v.take j, (c != 0) = false) (fun j => [(13, .d (iD j))]) (fun _ => []) (fun j => v.length - j) 0 ⟨by omega, by simp⟩ (by refine ⟨?_, ?_, rfl⟩<;>(repeat' (first|exact True.intro|exact rfl|(refine ⟨?_,?_⟩)|(intro h;cases h;done)|fail));done) ?_
  rintro j ⟨hj, hjn⟩
  by_cases hjl : j < v.length
  ·obtain ⟨c, hc⟩ := some_of_lt hjl
   by_cases hc0 : c = 0
   ·subst hc0
    conv => whnf
    repeat' (first|((refine PickE.map j hc (by omega) ?_);conv=>whnf)|((with_reducible refine Split.is_false ?_ ?_);decide;conv=>whnf)|((with_reducible refine Split.dec (fun _=>?_) (fun _=>?_))<;>conv=>whnf)|((with_reducible refine Need.mk ?_ ?_);(first|omega|rfl|decide|(refine ⟨?_,?_⟩<;>simp<;>omega)|(simp;omega));conv=>whnf)|((with_reducible refine Wr.inr ?_ ?_);(first|omega|(simp;omega));conv=>whnf)|(exfalso;first|omega|contradiction)|fail)
    all_goals first
     |(exfalso; omega)
     | skip
    refine Again.av (j + 1) ⟨by omega, fun z hz => ?_⟩ (by omega) (by refine ⟨?_, ?_, rfl⟩<;>(repeat' (first|exact True.intro|exact rfl|(refine ⟨?_,?_⟩)|(intro h;cases h;done)|fail));done)
    rw [take_snoc hc] at hz
    rcases List.mem_append.1 hz with hz | hz
    ·exact hjn z hz
    ·rw [List.mem_singleton.1 hz]; rfl
   ·have : (v.any fun z => z != 0) = true := List.any_eq_true.2 ⟨c, List.mem_of_getElem? hc, by simpa using hc0⟩
    rw [this, Bool.not_true, Bool.false_and]
    conv => whnf
    repeat' (first|((refine PickE.map j hc (by omega) ?_);conv=>whnf)|((with_reducible refine Split.nez (fun _=>?_) (fun _=>?_))<;>conv=>whnf)|((with_reducible refine Split.dec (fun _=>?_) (fun _=>?_))<;>conv=>whnf)|((with_reducible refine Need.mk ?_ ?_);(first|omega|rfl|decide|(refine ⟨?_,?_⟩<;>simp<;>omega)|(simp;omega));conv=>whnf)|((with_reducible refine Wr.inr ?_ ?_);(first|omega|(simp;omega));conv=>whnf)|(exfalso;first|omega|contradiction)|fail)
    all_goals first
     | rfl
     |(exfalso; omega)
  ·rw [List.take_of_length_le (show v.length ≤ j by omega)] at hjn
   rw [show (v.any fun z => z != 0) = false from by simpa using any_no9 hjn, Bool.not_false, Bool.true_and]
   conv => whnf
   repeat' (first|((with_reducible refine Split.dec (fun _=>?_) (fun _=>?_))<;>conv=>whnf)|((with_reducible refine Need.mk ?_ ?_);(first|omega|rfl|decide|(refine ⟨?_,?_⟩<;>simp<;>omega)|(simp;omega));conv=>whnf)|(exfalso;first|omega|contradiction)|fail)
   refine LoopK.o3 (fun p : Nat => p ≤ y.pits.length ∧ ∀ c ∈ (List.range y.pits.length).take p, decide (room.getD c 0 < tk.getD c 0) = false) (fun j => [(14, .d (iD j))]) (fun _ => []) (fun j => y.pits.length - j) 0 ⟨by omega, by simp⟩ (by refine ⟨?_, ?_, rfl⟩<;>(repeat' (first|exact True.intro|exact rfl|(refine ⟨?_,?_⟩)|(intro h;cases h;done)|fail));done) ?_
   rintro p ⟨hp, hpn⟩
   by_cases hpl : p < y.pits.length
   ·obtain ⟨c, hc⟩ := some_of_lt (show p < tk.length by omega)
    have w5 := hro p hpl
    have hrp := hrb p
    have hcd : tk.getD p 0 = c := by rw [List.getD, hc]; rfl
    by_cases hb : room.getD p 0 < c
    ·have : ((List.range y.pits.length).any fun p => decide (room.getD p 0 < tk.getD p 0)) = true := List.any_eq_true.2 ⟨p, List.mem_range.2 hpl, by rw [hcd]; simpa using hb⟩
     rw [this]
     generalize room.getD p 0 = rp at *
     conv => whnf
     repeat' (first|((refine PickE.map p hc (by omega) ?_);conv=>whnf)|((with_reducible refine Split.dec (fun _=>?_) (fun _=>?_))<;>conv=>whnf)|((with_reducible refine Need.mk ?_ ?_);(first|omega|rfl|decide|(refine ⟨?_,?_⟩<;>simp<;>omega)|(simp;omega));conv=>whnf)|((with_reducible refine Wr.inr ?_ ?_);(first|omega|(simp;omega));conv=>whnf)|((with_reducible refine AltK.l ?_);(conv=>whnf);(first|(refine CallK.mk _ (w5) ?_));conv=>whnf)|(exfalso;first|omega|contradiction)|fail)
     all_goals first
      | rfl
      |(exfalso; omega)
    ·have hnb : decide (room.getD p 0 < tk.getD p 0) = false := by rw [hcd]; simpa using hb
     have hpr : (List.range y.pits.length)[p]? = some p := List.getElem?_range hpl
     have hsn := take_snoc hpr
     generalize hrpe : room.getD p 0 = rp at *
     conv => whnf
     repeat' (first|((refine PickE.map p hc (by omega) ?_);conv=>whnf)|((with_reducible refine Split.dec (fun _=>?_) (fun _=>?_))<;>conv=>whnf)|((with_reducible refine Need.mk ?_ ?_);(first|omega|rfl|decide|(refine ⟨?_,?_⟩<;>simp<;>omega)|(simp;omega));conv=>whnf)|((with_reducible refine Wr.inr ?_ ?_);(first|omega|(simp;omega));conv=>whnf)|((with_reducible refine AltK.l ?_);(conv=>whnf);(first|(refine CallK.mk _ (w5) ?_));conv=>whnf)|(exfalso;first|omega|contradiction)|fail)
     all_goals first
      |(exfalso; omega)
      | skip
     refine Again.av (p + 1) ⟨by omega, fun z hz => ?_⟩ (by omega) (by refine ⟨?_, ?_, rfl⟩<;>(repeat' (first|exact True.intro|exact rfl|(refine ⟨?_,?_⟩)|(intro h;cases h;done)|fail));done)
     rw [hsn] at hz
     rcases List.mem_append.1 hz with hz | hz
     ·exact hpn z hz
     ·rw [List.mem_singleton.1 hz, hrpe]; exact hnb
   ·rw [List.take_of_length_le (show (List.range y.pits.length).length ≤ p by rw [List.length_range]; omega)] at hpn
    rw [show ((List.range y.pits.length).any fun p => decide (room.getD p 0 < tk.getD p 0)) = false from by simpa only [Bool.not_eq_true] using any_no9 hpn]
    conv => whnf
    repeat' (first|((with_reducible refine Split.dec (fun _=>?_) (fun _=>?_))<;>conv=>whnf)|((with_reducible refine Need.mk ?_ ?_);(first|omega|rfl|decide|(refine ⟨?_,?_⟩<;>simp<;>omega)|(simp;omega));conv=>whnf)|(exfalso;first|omega|contradiction)|fail)
    rfl
theorem ev_Cost9 {y : Yd} (hP : y.pits.length ≤ 1000000) (xs : List Al) (hn : xs.length ≤ 1000) (hx : ∀ a ∈ xs, 0 ≤ pitI y a.pit ∧ 0 ≤ a.vol ∧ a.vol ≤ 100000000000000000) (hp : ∀ p ∈ y.pits, 0 ≤ p.price ∧ p.price ≤ 10000) (hT : costF y xs ≤ 9000000000000000000) :
 Ev Try.prog 50 [ydD y, .sl 3 (xs.map alD)] (iD (costF y xs)) := by
 have hlp : (y.pits.map ptD).length = y.pits.length := List.length_map _
 have hlx : (xs.map alD).length = xs.length := List.length_map _
 have h0 : costF y (xs.take 0) = 0 := rfl
 refine ev_of_awp tysOk mixed (fn := Try.f50) Try.func50 rfl rfl rfl ?_
 conv => whnf
 skip
 refine LoopK.o3 (fun i : Nat => i ≤ xs.length) (fun i => [(5, .d (iD (costF y (xs.take i)))), (6, .d (iD i))]) (fun _ => []) (fun i => xs.length - i) 0 (by omega) (by refine ⟨?_, ?_, rfl⟩<;>(repeat' (first|exact True.intro|exact rfl|(refine ⟨?_,?_⟩)|(intro h;cases h;done)|fail));done) ?_
 rintro i hi
 dsimp only at hi ⊢
 by_cases hil : i < xs.length
 ·obtain ⟨a, ha⟩ := some_of_lt hil
  obtain ⟨a1, a2, a3⟩ := hx a (List.mem_of_getElem? ha)
  obtain ⟨j, q, hj, hq, -⟩ := ix_at (show ¬ ixI (fun p => sEq p.name a.pit) y.pits < 0 by have : 0 ≤ ixI (fun p => sEq p.name a.pit) y.pits := a1; omega)
  have hw : Ev Try.prog 39 [.sl 6 (y.pits.map ptD), .str a.pit] (iD (pitI y a.pit)) := ev_Find9 y.pits a.pit (by omega)
  have hj : pitI y a.pit = j := hj
  rw [hj] at hw
  have hqp := hp q (List.mem_of_getElem? hq)
  have hpr : prA y a = a.vol * q.price := by rw [prA, hj, Int.toNat_natCast, priceF, hq]
  have hst : costF y (xs.take (i + 1)) = costF y (xs.take i) + a.vol * q.price := by rw [List.take_add_one, ha, ← hpr]; simp [costF]
  have hle := cost_le (y := y) (xs := xs) (fun a ha => ⟨(hx a ha).2.1, (hx a ha).1⟩) (fun p hp' => (hp p hp').1) (i + 1)
  have hge := cost_nn (y := y) (xs := xs) (fun a ha => ⟨(hx a ha).2.1, (hx a ha).1⟩) (fun p hp' => (hp p hp').1) i
  have hmul : 0 ≤ a.vol * q.price := Int.mul_nonneg a2 hqp.1
  have hxD : (xs.map alD)[(i : Int).toNat]? = some (D.agg [iD a.n, .str a.pit, iD a.vol]) := by rw [Int.toNat_natCast, List.getElem?_map, ha]; rfl
  rw [hst] at hle
  generalize costF y (xs.take i) = c at *
  conv => whnf
  repeat' (first|((refine PickE.map j hq (by omega) ?_);conv=>whnf)|((refine PickE.mk _ hxD ?_);conv=>whnf)|((with_reducible refine Split.dec (fun _=>?_) (fun _=>?_))<;>conv=>whnf)|((with_reducible refine Need.mk ?_ ?_);(first|omega|rfl|decide|(refine ⟨?_,?_⟩<;>simp<;>omega)|(simp;omega));conv=>whnf)|((with_reducible refine Wr.inr ?_ ?_);(first|omega|(simp;omega));conv=>whnf)|((with_reducible refine AltK.l ?_);(conv=>whnf);(first|(refine CallK.mk _ (hw) ?_));conv=>whnf)|(exfalso;first|omega|contradiction)|fail)
  refine Again.av (i + 1) (by omega) (by omega) ?_
  rw [hst]
  exact (by refine ⟨?_, ?_, rfl⟩<;>(repeat' (first|exact True.intro|exact rfl|(refine ⟨?_,?_⟩)|(intro h;cases h;done)|fail));done)
 ·have hie : i = xs.length := by omega
  subst hie
  rw [List.take_length]
  conv => whnf
  repeat' (first|((with_reducible refine Split.dec (fun _=>?_) (fun _=>?_))<;>conv=>whnf)|((with_reducible refine Need.mk ?_ ?_);(first|omega|rfl|decide|(refine ⟨?_,?_⟩<;>simp<;>omega)|(simp;omega));conv=>whnf)|(exfalso;first|omega|contradiction)|fail)
  rfl
end Go.Proofs.Try
end

section
namespace Go.Proofs.Try
open Go Go.Vm
set_option maxRecDepth 20000
set_option maxHeartbeats 8000000
theorem ev_priceD {y : Yd} {l : List Bt} {vol room : List Int} {fl : List (List Int)} (hP : y.pits.length ≤ 1000000) (xs : List Al) (hn : xs.length ≤ 1000) (hx : ∀ a ∈ xs, 0 ≤ pitI y a.pit ∧ 0 ≤ a.vol ∧ a.vol ≤ 100000000000000000) (hp : ∀ p ∈ y.pits, 0 ≤ p.price ∧ p.price ≤ 10000) (hT : costF y xs ≤ 9000000000000000000) :
 Ev Try.prog 94 [.ref (tkC y l vol room fl) 0, .sl 3 (xs.map alD)] (iD (costF y xs)) := by
 have hlp : (y.pits.map ptD).length = y.pits.length := List.length_map _
 have hlx : (xs.map alD).length = xs.length := List.length_map _
 have h0 : costF y (xs.take 0) = 0 := rfl
 unfold tkC
 refine ev_of_awp tysOk mixed (fn := Try.f94) Try.func94 rfl rfl rfl ?_
 conv => whnf
 skip
 refine LoopK.o3 (fun i : Nat => i ≤ xs.length) (fun i => [(5, .d (iD (costF y (xs.take i)))), (10, .d (iD i))]) (fun _ => []) (fun i => xs.length - i) 0 (by omega) (by refine ⟨?_, ?_, rfl⟩<;>(repeat' (first|exact True.intro|exact rfl|(refine ⟨?_,?_⟩)|fail));done) ?_
 rintro i hi
 dsimp only at hi ⊢
 by_cases hil : i < xs.length
 ·obtain ⟨a, ha⟩ := some_of_lt hil
  obtain ⟨a1, a2, a3⟩ := hx a (List.mem_of_getElem? ha)
  obtain ⟨j, q, hj, hq, -⟩ := ix_at (show ¬ ixI (fun p => sEq p.name a.pit) y.pits < 0 by have : 0 ≤ ixI (fun p => sEq p.name a.pit) y.pits := a1; omega)
  have hw := ev_pitOf y a.pit (by omega)
  have hj : pitI y a.pit = j := hj
  rw [hj] at hw
  have hqp := hp q (List.mem_of_getElem? hq)
  have hpr : prA y a = a.vol * q.price := by rw [prA, hj, Int.toNat_natCast, priceF, hq]
  have hst : costF y (xs.take (i + 1)) = costF y (xs.take i) + a.vol * q.price := by rw [List.take_add_one, ha, ← hpr]; simp [costF]
  have hle := cost_le (y := y) (xs := xs) (fun a ha => ⟨(hx a ha).2.1, (hx a ha).1⟩) (fun p hp' => (hp p hp').1) (i + 1)
  have hge := cost_nn (y := y) (xs := xs) (fun a ha => ⟨(hx a ha).2.1, (hx a ha).1⟩) (fun p hp' => (hp p hp').1) i
  have hmul : 0 ≤ a.vol * q.price := Int.mul_nonneg a2 hqp.1
  have hxD : (xs.map alD)[(i : Int).toNat]? = some (D.agg [iD a.n, .str a.pit, iD a.vol]) := by rw [Int.toNat_natCast, List.getElem?_map, ha]; rfl
  rw [hst] at hle
  generalize costF y (xs.take i) = c at *
  conv => whnf
  repeat' (first|((refine PickE.map j hq (by omega) ?_);conv=>whnf)|((refine PickE.mk _ hxD ?_);conv=>whnf)|((with_reducible refine Split.dec (fun _=>?_) (fun _=>?_))<;>conv=>whnf)|((with_reducible refine Need.mk ?_ ?_);(first|omega|rfl|decide|(refine ⟨?_,?_⟩<;>simp<;>omega)|(simp;omega));conv=>whnf)|((with_reducible refine Wr.inr ?_ ?_);(first|omega|(simp;omega));conv=>whnf)|((with_reducible refine AltK.l ?_);(conv=>whnf);(first|(refine CallK.mk _ (hw) ?_));conv=>whnf)|(exfalso;first|omega|contradiction)|fail)
  refine Again.av (i + 1) (by omega) (by omega) ?_
  rw [hst]
  exact (by refine ⟨?_, ?_, rfl⟩<;>(repeat' (first|exact True.intro|exact rfl|(refine ⟨?_,?_⟩)|fail));done)
 ·have hie : i = xs.length := by omega
  subst hie
  rw [List.take_length]
  conv => whnf
  repeat' (first|((with_reducible refine Split.dec (fun _=>?_) (fun _=>?_))<;>conv=>whnf)|((with_reducible refine Need.mk ?_ ?_);(first|omega|rfl|decide|(refine ⟨?_,?_⟩<;>simp<;>omega)|(simp;omega));conv=>whnf)|(exfalso;first|omega|contradiction)|fail)
  rfl
theorem inR_out (v : Int) : (!outsideB v 0 20000) = inR v := by
 rw [Bool.eq_iff_iff]
 simp [outsideB, inR]
theorem getD_o9 {l : List Int} {i : Nat} {v : Int} (h : l[i]? = some v) : l.getD i 0 = v := by rw [List.getD, h]; rfl
theorem take_all9 {l : List Int} {q : Int → Bool} {i : Nat} (hi : l.length ≤ i) (h : ∀ v ∈ l.take i, q v = true) : ∀ v ∈ l, q v = true := by rwa [List.take_of_length_le hi] at h
theorem take_one9 {l : List Int} {q : Int → Bool} {i : Nat} {v : Int} (hv : l[i]? = some v) (h : ∀ v ∈ l.take i, q v = true) (hq : q v = true) : ∀ v ∈ l.take (i + 1), q v = true := by
 intro z hz
 rw [take_snoc hv] at hz
 rcases List.mem_append.1 hz with hz | hz
 ·exact h z hz
 ·rw [List.mem_singleton.1 hz]; exact hq
theorem inR_take {l : List Int} {i j : Nat} (h : ∀ v ∈ l.take i, inR v = true) (hj : j < i) : 0 ≤ l.getD j 0 ∧ l.getD j 0 ≤ 20000 := by
 rw [List.getD_eq_getElem?_getD]
 cases hv : l[j]? with
 | none => simp
 | some v =>
  have := h v (List.mem_take_iff_getElem.2 ⟨j, by have := lt_of_some hv; omega, (List.getElem?_eq_some_iff.1 hv).2⟩)
  exact inR_iff.1 this
theorem prod_bd {a b M N : Int} (ha : 0 ≤ a ∧ a ≤ M) (hb : 0 ≤ b ∧ b ≤ N) : 0 ≤ a * b ∧ a * b ≤ M * N :=
 ⟨Int.mul_nonneg ha.1 hb.1, Int.mul_le_mul ha.2 hb.2 hb.1 (by omega)⟩
def yldP (room ps : List Int) (p : Nat) : Int := sumN p fun p => ps.getD p 0 * room.getD p 0
def yldN (vol bs : List Int) (b : Nat) : Int := sumN b fun b => bs.getD b 0 * vol.getD b 0
theorem yldP_bd {room ps : List Int} (hr : ∀ p, 0 ≤ room.getD p 0 ∧ room.getD p 0 ≤ 40000000000000) {p : Nat} (h : ∀ v ∈ ps.take p, inR v = true) : 0 ≤ yldP room ps p ∧ yldP room ps p ≤ p * 800000000000000000 :=
 ⟨sumN_nn fun q hq => (prod_bd (inR_take h hq) (hr q)).1, sumN_bd fun q hq => (prod_bd (inR_take h hq) (hr q)).2⟩
theorem yldN_bd {vol bs : List Int} (hv : ∀ b, 0 ≤ vol.getD b 0 ∧ vol.getD b 0 ≤ 10000000000000) {b : Nat} (h : ∀ v ∈ bs.take b, inR v = true) : 0 ≤ yldN vol bs b ∧ yldN vol bs b ≤ b * 200000000000000000 :=
 ⟨sumN_nn fun q hq => (prod_bd (inR_take h hq) (hv q)).1, sumN_bd fun q hq => (prod_bd (inR_take h hq) (hv q)).2⟩
theorem ev_yields {y : Yd} {l : List Bt} {vol room : List Int} {fl : List (List Int)} (h : TkOk y l vol room fl) (hpp : ∀ p ∈ y.pits, 0 ≤ p.price ∧ p.price ≤ 10000) (hvb : ∀ b, 0 ≤ vol.getD b 0 ∧ vol.getD b 0 ≤ 10000000000000) (hrb : ∀ p, 0 ≤ room.getD p 0 ∧ room.getD p 0 ≤ 40000000000000) (bs ps : List Int) :
 Ev Try.prog 95 [.ref (tkC y l vol room fl) 0, .agg [.sl 1 (bs.map iD), .sl 1 (ps.map iD)]] (.tup [iD (if yldB (accF y l) y.pits.length l.length (priceF y) bs ps = true then yieldS y.pits.length l.length vol room bs ps else 0), .bool (yldB (accF y l) y.pits.length l.length (priceF y) bs ps)]) := by
 have e1 := h.hv
 have e2 := h.hr
 have e3 := h.hL
 have e4 := h.hP
 have hlb : (bs.map iD).length = bs.length := List.length_map _
 have hlq : (ps.map iD).length = ps.length := List.length_map _
 have hlp : (y.pits.map ptD).length = y.pits.length := List.length_map _
 have hll : (l.map btD).length = l.length := List.length_map _
 have hlv : (vol.map iD).length = vol.length := List.length_map _
 have hlr : (room.map iD).length = room.length := List.length_map _
 have hno : ¬ Yld (accF y l) y.pits.length l.length (priceF y) bs ps → yldB (accF y l) y.pits.length l.length (priceF y) bs ps = false := yld_no
 have hyes : Yld (accF y l) y.pits.length l.length (priceF y) bs ps → yldB (accF y l) y.pits.length l.length (priceF y) bs ps = true := yld_iff.2
 have hAc := fun (p b : Nat) (hp : p < y.pits.length) (hb : b < l.length) => ev_acceptsD (y := y) (l := l) (vol := vol) (room := room) (fl := fl) hp hb h.cl
 unfold tkC at hAc ⊢
 generalize yldB (accF y l) y.pits.length l.length (priceF y) bs ps = B at *
 by_cases hb : bs.length = l.length
 case neg =>
  rw [hno fun h => hb h.bl]
  refine ev_of_awp tysOk mixed (fn := Try.f95) Try.func95 rfl rfl rfl ?_
  conv => whnf
  repeat' (first|((with_reducible refine Split.of_true ?_);conv=>whnf)|((with_reducible refine Split.nez (fun _=>?_) (fun _=>?_))<;>conv=>whnf)|(exfalso;first|omega|contradiction)|fail)
  all_goals first
   | rfl
   |(exfalso; omega)
 by_cases hq : ps.length = y.pits.length
 case neg =>
  rw [hno fun h => hq h.pl]
  refine ev_of_awp tysOk mixed (fn := Try.f95) Try.func95 rfl rfl rfl ?_
  conv => whnf
  repeat' (first|((with_reducible refine Split.of_true ?_);conv=>whnf)|((with_reducible refine Split.nez (fun _=>?_) (fun _=>?_))<;>conv=>whnf)|(exfalso;first|omega|contradiction)|fail)
  all_goals first
   | rfl
   |(exfalso; omega)
 refine ev_of_awp tysOk mixed (fn := Try.f95) Try.func95 rfl rfl rfl ?_
 conv => whnf
 repeat' (first|((with_reducible refine Split.of_true ?_);conv=>whnf)|((with_reducible refine Split.nez (fun _=>?_) (fun _=>?_))<;>conv=>whnf)|(exfalso;first|omega|contradiction)|fail)
 all_goals first
  |(exfalso; omega)
  | skip
 refine LoopK.o3 (fun p : Nat => p ≤ ps.length ∧ ∀ v ∈ ps.take p, inR v = true) (fun p => [(36, .d (iD p)), (6, .d (iD (-(yldP room ps p))))]) (fun _ => []) (fun p => ps.length - p) 0 ⟨by omega, by simp⟩ (by refine ⟨?_, ?_, rfl⟩<;>(repeat' (first|exact True.intro|exact rfl|(refine ⟨?_,?_⟩)|(intro h;cases h;done)|fail));done) ?_
 rintro p ⟨hp, hpr⟩
 dsimp only at hp ⊢
 have hbp := yldP_bd hrb hpr
 by_cases hpl : p < ps.length
 ·obtain ⟨v, hv⟩ := some_of_lt hpl
  have w1 := ev_dwithin v 0 20000
  rw [inR_out] at w1
  cases hin : inR v with
  | false =>
   rw [hin] at w1
   rw [hno fun h => by have := inR_iff.2 (h.pb v (List.mem_of_getElem? hv)); rw [hin] at this; cases this]
   conv => whnf
   repeat' (first|((refine PickE.map p hv (by omega) ?_);conv=>whnf)|((with_reducible refine Split.of_false ?_);conv=>whnf)|(with_reducible refine Split.neg ?_)|((with_reducible refine Split.dec (fun _=>?_) (fun _=>?_))<;>conv=>whnf)|((with_reducible refine Need.mk ?_ ?_);(first|omega|rfl|decide|(refine ⟨?_,?_⟩<;>simp<;>omega)|(simp;omega));conv=>whnf)|((with_reducible refine AltK.l ?_);(conv=>whnf);(first|(refine CallK.mk _ (w1) ?_));conv=>whnf)|(exfalso;first|omega|contradiction)|fail)
   all_goals first
    | rfl
    |(exfalso; omega)
  | true =>
   rw [hin] at w1
   obtain ⟨r, hr⟩ := some_of_lt (show p < room.length by omega)
   have hrp := hrb p
   rw [getD_o9 hr] at hrp
   have hvr := prod_bd (inR_iff.1 hin) hrp
   have hst : yldP room ps (p + 1) = yldP room ps p + v * r := by rw [yldP, sumN, getD_o9 hv, getD_o9 hr]; rfl
   have htk := take_one9 hv hpr hin
   have hb2 := yldP_bd hrb htk
   rw [hst] at hb2
   generalize yldP room ps p = s at *
   conv => whnf
   repeat' (first|((refine PickE.map p hr (by omega) ?_);conv=>whnf)|((refine PickE.map p hv (by omega) ?_);conv=>whnf)|((with_reducible refine Split.of_true ?_);conv=>whnf)|(with_reducible refine Split.neg ?_)|((with_reducible refine Split.dec (fun _=>?_) (fun _=>?_))<;>conv=>whnf)|((with_reducible refine Need.mk ?_ ?_);(first|omega|rfl|decide|(refine ⟨?_,?_⟩<;>simp<;>omega)|(simp;omega));conv=>whnf)|((with_reducible refine Wr.inr ?_ ?_);(first|omega|(simp;omega));conv=>whnf)|((with_reducible refine AltK.l ?_);(conv=>whnf);(first|(refine CallK.mk _ (w1) ?_));conv=>whnf)|(exfalso;first|omega|contradiction)|fail)
   all_goals first
    |(exfalso; omega)
    | skip
   refine Again.av (p + 1) ⟨by omega, htk⟩ (by omega) ?_
   rw [hst]
   exact (by refine ⟨?_, ?_, rfl⟩<;>(repeat' (first|exact True.intro|exact rfl|(refine ⟨?_,?_⟩)|(intro h;cases h;done)|(refine int_congr ?_;(first|omega|(simp;omega)))|fail));done)
 ·have hpe : p = ps.length := by omega
  subst hpe
  have hall := take_all9 (Nat.le_refl _) hpr
  clear hpr
  generalize hS2 : yldP room ps ps.length = S2 at *
  conv => whnf
  repeat' (first|((with_reducible refine Split.dec (fun _=>?_) (fun _=>?_))<;>conv=>whnf)|((with_reducible refine Need.mk ?_ ?_);(first|omega|rfl|decide|(refine ⟨?_,?_⟩<;>simp<;>omega)|(simp;omega));conv=>whnf)|(exfalso;first|omega|contradiction)|fail)
  refine LoopK.o3 (fun b : Nat => b ≤ bs.length ∧ (∀ v ∈ bs.take b, inR v = true) ∧ ∀ b', b' < b → ∀ p, p < y.pits.length → accF y l p b' = true → bs.getD b' 0 ≤ priceF y p + ps.getD p 0) (fun b => [(59, .d (iD b)), (6, .d (iD (yldN vol bs b - S2)))]) (fun _ => []) (fun b => bs.length - b) 0 ⟨by omega, by simp, fun _ h => absurd h (Nat.not_lt_zero _)⟩ (by refine ⟨?_, ?_, rfl⟩<;>(repeat' (first|exact True.intro|exact rfl|(refine ⟨?_,?_⟩)|(intro h;cases h;done)|((first|refine own_congr ?_|refine int_congr ?_|skip);simp [yldN,sumN];done)|fail));done) ?_
  rintro b ⟨hb1, hbr, hba⟩
  dsimp only at hb1 ⊢
  have hbb := yldN_bd hvb hbr
  by_cases hbl : b < bs.length
  ·obtain ⟨v, hv⟩ := some_of_lt hbl
   have w1 := ev_dwithin v 0 20000
   rw [inR_out] at w1
   cases hin : inR v with
   | false =>
    rw [hin] at w1
    rw [hno fun h => by have := inR_iff.2 (h.bb v (List.mem_of_getElem? hv)); rw [hin] at this; cases this]
    conv => whnf
    repeat' (first|((refine PickE.map b hv (by omega) ?_);conv=>whnf)|((with_reducible refine Split.of_false ?_);conv=>whnf)|(with_reducible refine Split.neg ?_)|((with_reducible refine Split.dec (fun _=>?_) (fun _=>?_))<;>conv=>whnf)|((with_reducible refine Need.mk ?_ ?_);(first|omega|rfl|decide|(refine ⟨?_,?_⟩<;>simp<;>omega)|(simp;omega));conv=>whnf)|((with_reducible refine AltK.l ?_);(conv=>whnf);(first|(refine CallK.mk _ (w1) ?_));conv=>whnf)|(exfalso;first|omega|contradiction)|fail)
    all_goals first
     | rfl
     |(exfalso; omega)
   | true =>
    rw [hin] at w1
    have hvr0 := inR_iff.1 hin
    conv => whnf
    repeat' (first|((refine PickE.map b hv (by omega) ?_);conv=>whnf)|((with_reducible refine Split.of_true ?_);conv=>whnf)|(with_reducible refine Split.neg ?_)|((with_reducible refine Split.dec (fun _=>?_) (fun _=>?_))<;>conv=>whnf)|((with_reducible refine Need.mk ?_ ?_);(first|omega|rfl|decide|(refine ⟨?_,?_⟩<;>simp<;>omega)|(simp;omega));conv=>whnf)|((with_reducible refine AltK.l ?_);(conv=>whnf);(first|(refine CallK.mk _ (w1) ?_));conv=>whnf)|(exfalso;first|omega|contradiction)|fail)
    all_goals first
     |(exfalso; omega)
     | skip
    refine LoopK.o3 (fun p : Nat => p ≤ ps.length ∧ ∀ q, q < p → accF y l q b = true → v ≤ priceF y q + ps.getD q 0) (fun p => [(70, .d (iD p))]) (fun _ => []) (fun p => ps.length - p) 0 ⟨by omega, fun _ h => absurd h (Nat.not_lt_zero _)⟩ (by refine ⟨?_, ?_, rfl⟩<;>(repeat' (first|exact True.intro|exact rfl|(refine ⟨?_,?_⟩)|(intro h;cases h;done)|fail));done) ?_
    rintro p ⟨hp, hpa⟩
    by_cases hpl : p < ps.length
    ·have w3 := hAc p b (by omega) (by omega)
     obtain ⟨q, hqq⟩ := some_of_lt (show p < y.pits.length by omega)
     obtain ⟨u, hu⟩ := some_of_lt hpl
     have hub := inR_iff.1 (hall u (List.mem_of_getElem? hu))
     have hqp := hpp q (List.mem_of_getElem? hqq)
     have hpq : priceF y p = q.price := by rw [priceF, hqq]
     cases hac : accF y l p b with
     | false =>
      rw [hac] at w3
      conv => whnf
      repeat' (first|((with_reducible refine Split.of_false ?_);conv=>whnf)|((with_reducible refine Split.dec (fun _=>?_) (fun _=>?_))<;>conv=>whnf)|((with_reducible refine Need.mk ?_ ?_);(first|omega|rfl|decide|(refine ⟨?_,?_⟩<;>simp<;>omega)|(simp;omega));conv=>whnf)|((with_reducible refine Wr.inr ?_ ?_);(first|omega|(simp;omega));conv=>whnf)|((with_reducible refine AltK.l ?_);(conv=>whnf);(first|(refine CallK.mk _ (w3) ?_));conv=>whnf)|(exfalso;first|omega|contradiction)|fail)
      refine Again.av (p + 1) ⟨by omega, fun q' hq' ha => ?_⟩ (by omega) (by refine ⟨?_, ?_, rfl⟩<;>(repeat' (first|exact True.intro|exact rfl|(refine ⟨?_,?_⟩)|(intro h;cases h;done)|fail));done)
      by_cases e : q' = p
      ·subst e; rw [hac] at ha; cases ha
      ·exact hpa q' (by omega) ha
     | true =>
      rw [hac] at w3
      by_cases hgt : q.price + u < v
      ·rw [hno fun h => by
        have := h.ac b (by omega) p (by omega) hac
        rw [getD_o9 hv, getD_o9 hu, hpq] at this
        omega]
       conv => whnf
       repeat' (first|((refine PickE.map p hu (by omega) ?_);conv=>whnf)|((refine PickE.map p hqq (by omega) ?_);conv=>whnf)|((with_reducible refine Split.of_true ?_);conv=>whnf)|((with_reducible refine Split.dec (fun _=>?_) (fun _=>?_))<;>conv=>whnf)|((with_reducible refine Need.mk ?_ ?_);(first|omega|rfl|decide|(refine ⟨?_,?_⟩<;>simp<;>omega)|(simp;omega));conv=>whnf)|((with_reducible refine Wr.inr ?_ ?_);(first|omega|(simp;omega));conv=>whnf)|((with_reducible refine AltK.l ?_);(conv=>whnf);(first|(refine CallK.mk _ (w3) ?_));conv=>whnf)|(exfalso;first|omega|contradiction)|fail)
       all_goals first
        | rfl
        |(exfalso; omega)
      ·conv => whnf
       repeat' (first|((refine PickE.map p hu (by omega) ?_);conv=>whnf)|((refine PickE.map p hqq (by omega) ?_);conv=>whnf)|((with_reducible refine Split.of_true ?_);conv=>whnf)|((with_reducible refine Split.dec (fun _=>?_) (fun _=>?_))<;>conv=>whnf)|((with_reducible refine Need.mk ?_ ?_);(first|omega|rfl|decide|(refine ⟨?_,?_⟩<;>simp<;>omega)|(simp;omega));conv=>whnf)|((with_reducible refine Wr.inr ?_ ?_);(first|omega|(simp;omega));conv=>whnf)|((with_reducible refine AltK.l ?_);(conv=>whnf);(first|(refine CallK.mk _ (w3) ?_));conv=>whnf)|(exfalso;first|omega|contradiction)|fail)
       all_goals first
        |(exfalso; omega)
        | skip
       refine Again.av (p + 1) ⟨by omega, fun q' hq' ha => ?_⟩ (by omega) (by refine ⟨?_, ?_, rfl⟩<;>(repeat' (first|exact True.intro|exact rfl|(refine ⟨?_,?_⟩)|(intro h;cases h;done)|fail));done)
       by_cases e : q' = p
       ·subst e; rw [hpq, getD_o9 hu]; omega
       ·exact hpa q' (by omega) ha
    ·obtain ⟨r, hr⟩ := some_of_lt (show b < vol.length by omega)
     have hrp := hvb b
     rw [getD_o9 hr] at hrp
     have hvr := prod_bd hvr0 hrp
     have hst : yldN vol bs (b + 1) = yldN vol bs b + v * r := by rw [yldN, sumN, getD_o9 hv, getD_o9 hr]; rfl
     have htk := take_one9 hv hbr hin
     have hb2 := yldN_bd hvb htk
     rw [hst] at hb2
     generalize yldN vol bs b = s at *
     conv => whnf
     repeat' (first|((refine PickE.map b hr (by omega) ?_);conv=>whnf)|((with_reducible refine Split.dec (fun _=>?_) (fun _=>?_))<;>conv=>whnf)|((with_reducible refine Need.mk ?_ ?_);(first|omega|rfl|decide|(refine ⟨?_,?_⟩<;>simp<;>omega)|(simp;omega));conv=>whnf)|((with_reducible refine Wr.inr ?_ ?_);(first|omega|(simp;omega));conv=>whnf)|(exfalso;first|omega|contradiction)|fail)
     all_goals first
      |(exfalso; omega)
      | skip
     refine Again.av (b + 1) ⟨by omega, htk, fun b' hb' q hq' ha => ?_⟩ (by omega) ?_
     ·by_cases e : b' = b
      ·subst e; rw [getD_o9 hv]; exact hpa q (by omega) ha
      ·exact hba b' (by omega) q hq' ha
     ·rw [hst, show s + v * r - S2 = s - S2 + v * r by omega]
      exact (by refine ⟨?_, ?_, rfl⟩<;>(repeat' (first|exact True.intro|exact rfl|(refine ⟨?_,?_⟩)|(intro h;cases h;done)|fail));done)
  ·have hbe : b = bs.length := by omega
   subst hbe
   have hY : Yld (accF y l) y.pits.length l.length (priceF y) bs ps := ⟨hb, hq, fun v hv => inR_iff.1 (hall v hv), fun v hv => inR_iff.1 (take_all9 (Nat.le_refl _) hbr v hv), fun b' hb' p hp ha => hba b' (by omega) p hp ha⟩
   have hys : yieldS y.pits.length l.length vol room bs ps = yldN vol bs bs.length - S2 := by rw [← hS2, yieldS, yldN, yldP, hb, hq]
   rw [hyes hY, if_pos rfl, hys]
   generalize yldN vol bs bs.length = s at *
   conv => whnf
   repeat' (first|((with_reducible refine Split.dec (fun _=>?_) (fun _=>?_))<;>conv=>whnf)|((with_reducible refine Need.mk ?_ ?_);(first|omega|rfl|decide|(refine ⟨?_,?_⟩<;>simp<;>omega)|(simp;omega));conv=>whnf)|(exfalso;first|omega|contradiction)|fail)
   rfl
theorem ev_CheckCheapest {y : Yd} {l : List Bt} (hs : smallP y) (h0 : lstE y l = 0) (f : Frt) (hn : f.xs.length ≤ 1000) :
 Ev Try.prog 45 [ydD y, .sl 5 (l.map btD), frD f] (iD (if prvB y l f = true then 0 else 21)) := by
 have hO := ls_ok h0
 have hy := yd_ok hO.yd
 have hlen := hO.len
 have hP8 := hy.pits
 have hT := tk_ok hs hO
 have hB := ev_begin hs (show l.length ≤ 1000000 by omega) h0
 have hA := ev_assigned hT f.xs hn
 have hY := ev_yields hT (pt_price hy) (fun b => ⟨(vol_bd hO b).1, vol_13 hO b⟩) (room_bd hy) f.tf.bs f.tf.ps
 have hPr := fun h1 h2 => ev_priceD (y := y) (l := l) (vol := volF y l) (room := roomF y) (fl := flow0 y l) (by omega) f.xs hn h1 (pt_price hy) h2
 have hch := fun h => chr_bd hO ((asg_chr9 hO f.xs).1 h)
 have hres : prvB y l f = (asgB (accF y l) (atI l) (pitI y) (volF y l) (roomF y) f.xs && decide (costF y f.xs = f.cost) && yldB (accF y l) y.pits.length l.length (priceF y) f.tf.bs f.tf.ps && decide (yieldS y.pits.length l.length (volF y l) (roomF y) f.tf.bs f.tf.ps = f.cost)) := rfl
 generalize prvB y l f = res at *
 obtain ⟨xs, cost, ⟨bs, ps, bb⟩⟩ := f
 dsimp only at *
 unfold frD
 dsimp only
 unfold tkC at hB hA hY hPr
 cases hab : asgB (accF y l) (atI l) (pitI y) (volF y l) (roomF y) xs with
 | false =>
  rw [hab] at hA hres
  rw [hres]
  refine ev_of_awp tysOk mixed (fn := Try.f45) Try.func45 rfl rfl rfl ?_
  conv => whnf
  repeat' (first|((with_reducible first|refine Split.of_true ?_|refine Split.of_false ?_);conv=>whnf)|(with_reducible refine Split.neg ?_)|((with_reducible refine Split.is_false ?_ ?_);decide;conv=>whnf)|((with_reducible refine AltK.l ?_);(conv=>whnf);(first|(refine CallK.mk _ (hB) ?_)|(refine CallK.mk _ (hA) ?_));conv=>whnf)|fail)
  all_goals first
   | rfl
   |(exfalso; omega)
 | true =>
 obtain ⟨c1, c2⟩ := hch hab
 have hP := hPr c1 c2
 rw [hab, Bool.true_and] at hres
 rw [hab] at hA
 clear hPr hch hab c1 c2
 generalize costF y xs = cst at *
 by_cases hc : cst = cost
 case neg =>
  rw [decide_eq_false hc] at hres
  rw [hres]
  refine ev_of_awp tysOk mixed (fn := Try.f45) Try.func45 rfl rfl rfl ?_
  conv => whnf
  repeat' (first|((with_reducible refine Split.of_true ?_);conv=>whnf)|(with_reducible refine Split.neg ?_)|((with_reducible refine Split.is_false ?_ ?_);decide;conv=>whnf)|((with_reducible refine Split.nez (fun _=>?_) (fun _=>?_))<;>conv=>whnf)|((with_reducible refine AltK.l ?_);(conv=>whnf);(first|(refine CallK.mk _ (hB) ?_)|(refine CallK.mk _ (hA) ?_)|(refine CallK.mk _ (hP) ?_));conv=>whnf)|(exfalso;first|omega|contradiction)|fail)
  all_goals first
   | rfl
   |(exfalso; omega)
 rw [decide_eq_true hc, Bool.true_and] at hres
 have hJ := fun b => ev_judged b
 generalize yieldS y.pits.length l.length (volF y l) (roomF y) bs ps = ys at *
 cases hyb : yldB (accF y l) y.pits.length l.length (priceF y) bs ps with
 | false =>
  rw [hyb] at hY hres
  rw [hres]
  have hJ := ev_judged false
  refine ev_of_awp tysOk mixed (fn := Try.f45) Try.func45 rfl rfl rfl ?_
  conv => whnf
  repeat' (first|((with_reducible first|refine Split.of_true ?_|refine Split.of_false ?_);conv=>whnf)|(with_reducible refine Split.neg ?_)|((with_reducible refine Split.is_false ?_ ?_);decide;conv=>whnf)|((with_reducible refine Split.nez (fun _=>?_) (fun _=>?_))<;>conv=>whnf)|((with_reducible refine AltK.l ?_);(conv=>whnf);(first|(refine CallK.mk _ (hB) ?_)|(refine CallK.mk _ (hA) ?_)|(refine CallK.mk _ (hP) ?_)|(refine CallK.mk _ (hY) ?_)|(refine CallK.mk _ (hJ) ?_));conv=>whnf)|(exfalso;first|omega|contradiction)|fail)
  all_goals first
   | rfl
   |(exfalso; omega)
 | true =>
  rw [hyb, Bool.true_and] at hres
  rw [hyb, if_pos rfl] at hY
  rw [hres]
  have hJ := ev_judged (decide (ys = cost))
  refine ev_of_awp tysOk mixed (fn := Try.f45) Try.func45 rfl rfl rfl ?_
  conv => whnf
  repeat' (first|((with_reducible refine Split.of_true ?_);conv=>whnf)|(with_reducible refine Split.neg ?_)|((with_reducible refine Split.is_false ?_ ?_);decide;conv=>whnf)|((with_reducible refine Split.nez (fun _=>?_) (fun _=>?_))<;>conv=>whnf)|((with_reducible refine AltK.l ?_);(conv=>whnf);(first|(refine CallK.mk _ (hB) ?_)|(refine CallK.mk _ (hA) ?_)|(refine CallK.mk _ (hP) ?_)|(refine CallK.mk _ (hY) ?_)|(refine CallK.mk _ (hJ) ?_));conv=>whnf)|(exfalso;first|omega|contradiction)|fail)
  all_goals first
   | rfl
   |(exfalso; omega)
theorem ev_CheckCheapestNo {y : Yd} {l : List Bt} {f : Frt} (hs : smallP y) (hl : l.length ≤ 1000000) (hd : y.deps.length ≤ 1000000) (h0 : lstE y l ≠ 0) : Ev Try.prog 45 [ydD y, .sl 5 (l.map btD), frD f] (iD (lstE y l)) := by
 have hB := (xv_beginNo hs hl hd h0)
 generalize lstE y l = e at *
 unfold frD
 refine ev_of_awp tysOk mixed (fn := Try.f45) Try.func45 rfl rfl rfl ?_
 conv => whnf
 repeat' (first|((with_reducible refine Split.nez (fun _=>?_) (fun _=>?_))<;>conv=>whnf)|((with_reducible refine AltK.r ?_);(conv=>whnf);(first|(refine CallX.mk _ _ (hB) rfl ?_));conv=>whnf)|(exfalso;first|omega|contradiction)|fail)
 all_goals first
  | rfl
  |(exfalso; omega)
end Go.Proofs.Try
end

section
namespace Go.Proofs.Try
open Go Go.Vm
set_option maxRecDepth 20000
set_option maxHeartbeats 8000000
theorem inR_out9 (v : Int) : Ev Try.prog 75 [.int .i64 v, .int .i64 0, .int .i64 20000] (.bool (inR v)) := by
 have := ev_Within v 0 20000
 rwa [inR_out] at this
theorem ev_Proved9 {y : Yd} {l : List Bt} (hO : LsOk y l) (hcl : ∀ p ∈ y.pits, p.cls.length ≤ 1000000) (f : Frt) (hn : f.xs.length ≤ 200) :
 Ev Try.prog 47 [ydD y, .sl 5 (l.map btD), frD f] (.bool (prvB y l f)) := by
 have hy := yd_ok hO.yd
 have hlen := hO.len
 have hP8 := hy.pits
 have hb20 := hy.bulk
 have hA := ev_Assigned9 hO hcl f.xs hn
 rw [← asg_ra hO] at hA
 have hPr := fun h1 h2 => ev_Cost9 (y := y) (by omega) f.xs (by omega) h1 (pt_price hy) h2
 have hch := fun h => chr_bd hO ((asg_chr9 hO f.xs).1 h)
 have hV := ev_Volumes y l y.carry (by omega) (by omega) hO.wok ⟨hy.carL, hy.car⟩
 have hvl : (volF y l).length = l.length := (volsGo_spec hO.wok ⟨hy.carL, hy.car⟩).1
 rw [show volsGo y y.carry l = volF y l from rfl] at hV
 have hro : ∀ p, (h : p < y.pits.length) → Ev Try.prog 41 [ydD y, iD p] (iD ((roomF y).getD p 0)) := fun p h => by
  obtain ⟨q, hq⟩ := some_of_lt h
  have h1 := ev_Room9 y hq (hy.pit q (List.mem_of_getElem? hq)).1 hy.vol (by have := hy.deps; omega)
  have e : (roomF y).getD p 0 = roomS y q := by rw [roomF, List.getD, List.getElem?_map, hq]; rfl
  rw [e]; exact h1
 have hres : prvB y l f = (asgB (accF y l) (atI l) (pitI y) (volF y l) (roomF y) f.xs && decide (costF y f.xs = f.cost) && yldB (accF y l) y.pits.length l.length (priceF y) f.tf.bs f.tf.ps && decide (yieldS y.pits.length l.length (volF y l) (roomF y) f.tf.bs f.tf.ps = f.cost)) := rfl
 have hvb := fun b => And.intro (vol_bd hO b).1 (vol_13 hO b)
 have hrb := room_bd hy
 have hpp := pt_price hy
 generalize prvB y l f = res at *
 obtain ⟨xs, cost, ⟨bs, ps, bb⟩⟩ := f
 dsimp only at *
 unfold frD
 dsimp only
 have hlb : (bs.map iD).length = bs.length := List.length_map _
 have hlq : (ps.map iD).length = ps.length := List.length_map _
 have hlp : (y.pits.map ptD).length = y.pits.length := List.length_map _
 have hll : (l.map btD).length = l.length := List.length_map _
 cases hab : asgB (accF y l) (atI l) (pitI y) (volF y l) (roomF y) xs with
 | false =>
  rw [hab] at hA hres
  rw [hres]
  refine ev_of_awp tysOk mixed (fn := Try.f47) Try.func47 rfl rfl rfl ?_
  conv => whnf
  repeat' (first|((with_reducible first|refine Split.of_true ?_|refine Split.of_false ?_);conv=>whnf)|(with_reducible refine Split.neg ?_)|((with_reducible refine AltK.l ?_);(conv=>whnf);(first|(refine CallK.mk _ (hA) ?_));conv=>whnf)|fail)
  all_goals first
   | rfl
   |(exfalso; omega)
 | true =>
 obtain ⟨c1, c2⟩ := hch hab
 have hP := hPr c1 c2
 rw [hab, Bool.true_and] at hres
 rw [hab] at hA
 clear hPr hch hab c1 c2
 generalize costF y xs = cst at *
 by_cases hc : cst = cost
 case neg =>
  rw [decide_eq_false hc] at hres
  rw [hres]
  refine ev_of_awp tysOk mixed (fn := Try.f47) Try.func47 rfl rfl rfl ?_
  conv => whnf
  repeat' (first|((with_reducible refine Split.of_true ?_);conv=>whnf)|(with_reducible refine Split.neg ?_)|((with_reducible refine Split.nez (fun _=>?_) (fun _=>?_))<;>conv=>whnf)|((with_reducible refine AltK.l ?_);(conv=>whnf);(first|(refine CallK.mk _ (hA) ?_)|(refine CallK.mk _ (hP) ?_));conv=>whnf)|(exfalso;first|omega|contradiction)|fail)
  all_goals first
   | rfl
   |(exfalso; omega)
 subst hc
 rw [decide_eq_true rfl, Bool.true_and] at hres
 have hno : ¬ Yld (accF y l) y.pits.length l.length (priceF y) bs ps → res = false := fun h => by rw [hres, yld_no h]; rfl
 have hyes : Yld (accF y l) y.pits.length l.length (priceF y) bs ps → res = decide (yieldS y.pits.length l.length (volF y l) (roomF y) bs ps = cst) := fun h => by rw [hres, yld_iff.2 h]; rfl
 clear hres
 generalize volF y l = vol at *
 generalize roomF y = room at *
 have hlv : (vol.map iD).length = vol.length := List.length_map _
 by_cases hb : bs.length = l.length
 case neg =>
  rw [hno fun h => hb h.bl]
  refine ev_of_awp tysOk mixed (fn := Try.f47) Try.func47 rfl rfl rfl ?_
  conv => whnf
  repeat' (first|((with_reducible refine Split.of_true ?_);conv=>whnf)|(with_reducible refine Split.neg ?_)|((with_reducible refine Split.nez (fun _=>?_) (fun _=>?_))<;>conv=>whnf)|((with_reducible refine AltK.l ?_);(conv=>whnf);(first|(refine CallK.mk _ (hA) ?_)|(refine CallK.mk _ (hP) ?_));conv=>whnf)|(exfalso;first|omega|contradiction)|fail)
  all_goals first
   | rfl
   |(exfalso; omega)
 by_cases hq : ps.length = y.pits.length
 case neg =>
  rw [hno fun h => hq h.pl]
  refine ev_of_awp tysOk mixed (fn := Try.f47) Try.func47 rfl rfl rfl ?_
  conv => whnf
  repeat' (first|((with_reducible refine Split.of_true ?_);conv=>whnf)|(with_reducible refine Split.neg ?_)|((with_reducible refine Split.nez (fun _=>?_) (fun _=>?_))<;>conv=>whnf)|((with_reducible refine AltK.l ?_);(conv=>whnf);(first|(refine CallK.mk _ (hA) ?_)|(refine CallK.mk _ (hP) ?_));conv=>whnf)|(exfalso;first|omega|contradiction)|fail)
  all_goals first
   | rfl
   |(exfalso; omega)
 refine ev_of_awp tysOk mixed (fn := Try.f47) Try.func47 rfl rfl rfl ?_
 conv => whnf
 repeat' (first|((with_reducible refine Split.of_true ?_);conv=>whnf)|(with_reducible refine Split.neg ?_)|((with_reducible refine Split.nez (fun _=>?_) (fun _=>?_))<;>conv=>whnf)|((with_reducible refine AltK.l ?_);(conv=>whnf);(first|(refine CallK.mk _ (hA) ?_)|(refine CallK.mk _ (hP) ?_)|(refine CallK.mk _ (hV) ?_));conv=>whnf)|(exfalso;first|omega|contradiction)|fail)
 all_goals first
  |(exfalso; omega)
  | skip
 refine LoopK.o3 (fun b : Nat => b ≤ l.length ∧ ∀ v ∈ bs.take b, inR v = true) (fun b => [(9, .d (iD b)), (8, .d (iD (yldN vol bs b)))]) (fun _ => []) (fun b => l.length - b) 0 ⟨by omega, by simp⟩ (by refine ⟨?_, ?_, rfl⟩<;>(repeat' (first|exact True.intro|exact rfl|(refine ⟨?_,?_⟩)|(intro h;cases h;done)|fail));done) ?_
 rintro b ⟨hb1, hbr⟩
 dsimp only at hb1 ⊢
 have hbb := yldN_bd hvb hbr
 by_cases hbl : b < l.length
 ·obtain ⟨v, hv⟩ := some_of_lt (show b < bs.length by omega)
  have w1 := inR_out9 v
  cases hin : inR v with
  | false =>
   rw [hin] at w1
   rw [hno fun h => by have := inR_iff.2 (h.bb v (List.mem_of_getElem? hv)); rw [hin] at this; cases this]
   conv => whnf
   repeat' (first|((refine PickE.map b hv (by omega) ?_);conv=>whnf)|((with_reducible refine Split.of_false ?_);conv=>whnf)|(with_reducible refine Split.neg ?_)|((with_reducible refine Split.dec (fun _=>?_) (fun _=>?_))<;>conv=>whnf)|((with_reducible refine Need.mk ?_ ?_);(first|omega|rfl|decide|(refine ⟨?_,?_⟩<;>simp<;>omega)|(simp;omega));conv=>whnf)|((with_reducible refine AltK.l ?_);(conv=>whnf);(first|(refine CallK.mk _ (w1) ?_));conv=>whnf)|(exfalso;first|omega|contradiction)|fail)
   all_goals first
    | rfl
    |(exfalso; omega)
  | true =>
   rw [hin] at w1
   have hvr0 := inR_iff.1 hin
   obtain ⟨r, hr⟩ := some_of_lt (show b < vol.length by omega)
   have hrp := hvb b
   rw [getD_o9 hr] at hrp
   have hvr := prod_bd hvr0 hrp
   have hst : yldN vol bs (b + 1) = yldN vol bs b + v * r := by rw [yldN, sumN, getD_o9 hv, getD_o9 hr]; rfl
   have htk := take_one9 hv hbr hin
   have hb2 := yldN_bd hvb htk
   rw [hst] at hb2
   generalize yldN vol bs b = s at *
   conv => whnf
   repeat' (first|((refine PickE.map b hr (by omega) ?_);conv=>whnf)|((refine PickE.map b hv (by omega) ?_);conv=>whnf)|((with_reducible refine Split.of_true ?_);conv=>whnf)|(with_reducible refine Split.neg ?_)|((with_reducible refine Split.dec (fun _=>?_) (fun _=>?_))<;>conv=>whnf)|((with_reducible refine Need.mk ?_ ?_);(first|omega|rfl|decide|(refine ⟨?_,?_⟩<;>simp<;>omega)|(simp;omega));conv=>whnf)|((with_reducible refine Wr.inr ?_ ?_);(first|omega|(simp;omega));conv=>whnf)|((with_reducible refine AltK.l ?_);(conv=>whnf);(first|(refine CallK.mk _ (w1) ?_));conv=>whnf)|(exfalso;first|omega|contradiction)|fail)
   all_goals first
    |(exfalso; omega)
    | skip
   refine Again.av (b + 1) ⟨by omega, htk⟩ (by omega) ?_
   rw [hst]
   exact (by refine ⟨?_, ?_, rfl⟩<;>(repeat' (first|exact True.intro|exact rfl|(refine ⟨?_,?_⟩)|(intro h;cases h;done)|fail));done)
 ·have hbe : b = l.length := by omega
  subst hbe
  have hallb := take_all9 (by omega) hbr
  have hbb2 := hbb
  clear hbr
  generalize hS1 : yldN vol bs l.length = S1 at *
  conv => whnf
  repeat' (first|((with_reducible refine Split.dec (fun _=>?_) (fun _=>?_))<;>conv=>whnf)|((with_reducible refine Need.mk ?_ ?_);(first|omega|rfl|decide|(refine ⟨?_,?_⟩<;>simp<;>omega)|(simp;omega));conv=>whnf)|(exfalso;first|omega|contradiction)|fail)
  refine LoopK.o3 (fun p : Nat => p ≤ y.pits.length ∧ (∀ v ∈ ps.take p, inR v = true) ∧ ∀ q, q < p → ∀ b, b < l.length → accF y l q b = true → bs.getD b 0 ≤ priceF y q + ps.getD q 0) (fun p => [(10, .d (iD p)), (8, .d (iD (S1 - yldP room ps p)))]) (fun _ => []) (fun p => y.pits.length - p) 0 ⟨by omega, by simp, fun _ h => absurd h (Nat.not_lt_zero _)⟩ (by refine ⟨?_, ?_, rfl⟩<;>(repeat' (first|exact True.intro|exact rfl|(refine ⟨?_,?_⟩)|(intro h;cases h;done)|((first|refine own_congr ?_|refine int_congr ?_|skip);simp [yldP,sumN];done)|fail));done) ?_
  rintro p ⟨hp1, hpr, hpa⟩
  dsimp only at hp1 ⊢
  have hbp := yldP_bd hrb hpr
  by_cases hpl : p < y.pits.length
  ·obtain ⟨u, hu⟩ := some_of_lt (show p < ps.length by omega)
   obtain ⟨q, hqq⟩ := some_of_lt hpl
   have hqp := hpp q (List.mem_of_getElem? hqq)
   have hpq : priceF y p = q.price := by rw [priceF, hqq]
   have w1 := inR_out9 u
   cases hin : inR u with
   | false =>
    rw [hin] at w1
    rw [hno fun h => by have := inR_iff.2 (h.pb u (List.mem_of_getElem? hu)); rw [hin] at this; cases this]
    conv => whnf
    repeat' (first|((refine PickE.map p hu (by omega) ?_);conv=>whnf)|((with_reducible refine Split.of_false ?_);conv=>whnf)|(with_reducible refine Split.neg ?_)|((with_reducible refine Split.dec (fun _=>?_) (fun _=>?_))<;>conv=>whnf)|((with_reducible refine Need.mk ?_ ?_);(first|omega|rfl|decide|(refine ⟨?_,?_⟩<;>simp<;>omega)|(simp;omega));conv=>whnf)|((with_reducible refine AltK.l ?_);(conv=>whnf);(first|(refine CallK.mk _ (w1) ?_));conv=>whnf)|(exfalso;first|omega|contradiction)|fail)
    all_goals first
     | rfl
     |(exfalso; omega)
   | true =>
    rw [hin] at w1
    have hub := inR_iff.1 hin
    conv => whnf
    repeat' (first|((refine PickE.map p hu (by omega) ?_);conv=>whnf)|((with_reducible refine Split.of_true ?_);conv=>whnf)|(with_reducible refine Split.neg ?_)|((with_reducible refine Split.dec (fun _=>?_) (fun _=>?_))<;>conv=>whnf)|((with_reducible refine Need.mk ?_ ?_);(first|omega|rfl|decide|(refine ⟨?_,?_⟩<;>simp<;>omega)|(simp;omega));conv=>whnf)|((with_reducible refine AltK.l ?_);(conv=>whnf);(first|(refine CallK.mk _ (w1) ?_));conv=>whnf)|(exfalso;first|omega|contradiction)|fail)
    all_goals first
     |(exfalso; omega)
     | skip
    refine LoopK.o3 (fun b : Nat => b ≤ l.length ∧ ∀ b', b' < b → accF y l p b' = true → bs.getD b' 0 ≤ q.price + u) (fun b => [(11, .d (iD b))]) (fun _ => []) (fun b => l.length - b) 0 ⟨by omega, fun _ h => absurd h (Nat.not_lt_zero _)⟩ (by refine ⟨?_, ?_, rfl⟩<;>(repeat' (first|exact True.intro|exact rfl|(refine ⟨?_,?_⟩)|(intro h;cases h;done)|fail));done) ?_
    rintro b ⟨hb2, hba⟩
    by_cases hbl : b < l.length
    ·obtain ⟨bt, hbt⟩ := some_of_lt hbl
     obtain ⟨v, hv⟩ := some_of_lt (show b < bs.length by omega)
     have hvr := inR_iff.1 (hallb v (List.mem_of_getElem? hv))
     have w3 := ev_Accepts9 q bt.cls (hcl q (List.mem_of_getElem? hqq))
     have eA : accF y l p b = accB q bt.cls := by rw [accF, hqq, hbt]
     cases hac : accB q bt.cls with
     | false =>
      rw [hac] at w3 eA
      conv => whnf
      repeat' (first|((refine PickE.map b hbt (by omega) ?_);conv=>whnf)|((refine PickE.map p hqq (by omega) ?_);conv=>whnf)|((with_reducible refine Split.of_false ?_);conv=>whnf)|((with_reducible refine Split.dec (fun _=>?_) (fun _=>?_))<;>conv=>whnf)|((with_reducible refine Need.mk ?_ ?_);(first|omega|rfl|decide|(refine ⟨?_,?_⟩<;>simp<;>omega)|(simp;omega));conv=>whnf)|((with_reducible refine Wr.inr ?_ ?_);(first|omega|(simp;omega));conv=>whnf)|((with_reducible refine AltK.l ?_);(conv=>whnf);(first|(refine CallK.mk _ (w3) ?_));conv=>whnf)|(exfalso;first|omega|contradiction)|fail)
      refine Again.av (b + 1) ⟨by omega, fun b' hb' ha => ?_⟩ (by omega) (by refine ⟨?_, ?_, rfl⟩<;>(repeat' (first|exact True.intro|exact rfl|(refine ⟨?_,?_⟩)|(intro h;cases h;done)|fail));done)
      by_cases e : b' = b
      ·subst e; rw [eA] at ha; cases ha
      ·exact hba b' (by omega) ha
     | true =>
      rw [hac] at w3 eA
      by_cases hgt : q.price + u < v
      ·rw [hno fun h => by
        have := h.ac b (by omega) p (by omega) eA
        rw [getD_o9 hv, getD_o9 hu, hpq] at this
        omega]
       conv => whnf
       repeat' (first|((refine PickE.map p hu (by omega) ?_);conv=>whnf)|((refine PickE.map b hv (by omega) ?_);conv=>whnf)|((refine PickE.map b hbt (by omega) ?_);conv=>whnf)|((refine PickE.map p hqq (by omega) ?_);conv=>whnf)|((with_reducible refine Split.of_true ?_);conv=>whnf)|((with_reducible refine Split.dec (fun _=>?_) (fun _=>?_))<;>conv=>whnf)|((with_reducible refine Need.mk ?_ ?_);(first|omega|rfl|decide|(refine ⟨?_,?_⟩<;>simp<;>omega)|(simp;omega));conv=>whnf)|((with_reducible refine Wr.inr ?_ ?_);(first|omega|(simp;omega));conv=>whnf)|((with_reducible refine AltK.l ?_);(conv=>whnf);(first|(refine CallK.mk _ (w3) ?_));conv=>whnf)|(exfalso;first|omega|contradiction)|fail)
       all_goals first
        | rfl
        |(exfalso; omega)
      ·conv => whnf
       repeat' (first|((refine PickE.map p hu (by omega) ?_);conv=>whnf)|((refine PickE.map b hv (by omega) ?_);conv=>whnf)|((refine PickE.map b hbt (by omega) ?_);conv=>whnf)|((refine PickE.map p hqq (by omega) ?_);conv=>whnf)|((with_reducible refine Split.of_true ?_);conv=>whnf)|((with_reducible refine Split.dec (fun _=>?_) (fun _=>?_))<;>conv=>whnf)|((with_reducible refine Need.mk ?_ ?_);(first|omega|rfl|decide|(refine ⟨?_,?_⟩<;>simp<;>omega)|(simp;omega));conv=>whnf)|((with_reducible refine Wr.inr ?_ ?_);(first|omega|(simp;omega));conv=>whnf)|((with_reducible refine AltK.l ?_);(conv=>whnf);(first|(refine CallK.mk _ (w3) ?_));conv=>whnf)|(exfalso;first|omega|contradiction)|fail)
       all_goals first
        |(exfalso; omega)
        | skip
       refine Again.av (b + 1) ⟨by omega, fun b' hb' ha => ?_⟩ (by omega) (by refine ⟨?_, ?_, rfl⟩<;>(repeat' (first|exact True.intro|exact rfl|(refine ⟨?_,?_⟩)|(intro h;cases h;done)|fail));done)
       by_cases e : b' = b
       ·subst e; rw [getD_o9 hv]; omega
       ·exact hba b' (by omega) ha
    ·have hrp := hrb p
     have w5 := hro p hpl
     have hvr := prod_bd hub hrp
     have hst : yldP room ps (p + 1) = yldP room ps p + u * room.getD p 0 := by rw [yldP, sumN, getD_o9 hu]; rfl
     have htk := take_one9 hu hpr hin
     have hb3 := yldP_bd hrb htk
     rw [hst] at hb3
     generalize room.getD p 0 = r at *
     generalize yldP room ps p = s at *
     conv => whnf
     repeat' (first|((refine PickE.map p hu (by omega) ?_);conv=>whnf)|((with_reducible refine Split.dec (fun _=>?_) (fun _=>?_))<;>conv=>whnf)|((with_reducible refine Need.mk ?_ ?_);(first|omega|rfl|decide|(refine ⟨?_,?_⟩<;>simp<;>omega)|(simp;omega));conv=>whnf)|((with_reducible refine Wr.inr ?_ ?_);(first|omega|(simp;omega));conv=>whnf)|((with_reducible refine AltK.l ?_);(conv=>whnf);(first|(refine CallK.mk _ (w5) ?_));conv=>whnf)|(exfalso;first|omega|contradiction)|fail)
     all_goals first
      |(exfalso; omega)
      | skip
     refine Again.av (p + 1) ⟨by omega, htk, fun q' hq' b' hb' ha => ?_⟩ (by omega) ?_
     ·by_cases e : q' = p
      ·subst e; rw [getD_o9 hu, hpq]; exact hba b' (by omega) ha
      ·exact hpa q' (by omega) b' hb' ha
     ·rw [hst, show S1 - (s + u * r) = S1 - s - u * r by omega]
      exact (by refine ⟨?_, ?_, rfl⟩<;>(repeat' (first|exact True.intro|exact rfl|(refine ⟨?_,?_⟩)|(intro h;cases h;done)|fail));done)
  ·have hpe : p = y.pits.length := by omega
   subst hpe
   have hY : Yld (accF y l) y.pits.length l.length (priceF y) bs ps := ⟨hb, hq, fun v hv => inR_iff.1 (take_all9 (by omega) hpr v hv), fun v hv => inR_iff.1 (hallb v hv), fun b' hb' p hp ha => hpa p hp b' hb' ha⟩
   have hys : yieldS y.pits.length l.length vol room bs ps = S1 - yldP room ps y.pits.length := by rw [← hS1, yieldS, yldN, yldP]
   rw [hyes hY, hys]
   generalize yldP room ps y.pits.length = s at *
   conv => whnf
   repeat' (first|((with_reducible refine Split.dec (fun _=>?_) (fun _=>?_))<;>conv=>whnf)|((with_reducible refine Need.mk ?_ ?_);(first|omega|rfl|decide|(refine ⟨?_,?_⟩<;>simp<;>omega)|(simp;omega));conv=>whnf)|(exfalso;first|omega|contradiction)|fail)
   rfl
end Go.Proofs.Try
end

section
namespace Go.Proofs.Try
open Go Go.Vm
set_option maxRecDepth 20000
set_option maxHeartbeats 8000000
def longB (x : List Al) : Bool := decide (30 < x.length) || x.any fun a => decide (40 < a.pit.size)
theorem longB_len {x : List Al} (h : longB x = false) : x.length ≤ 30 := by
 simp only [longB, Bool.or_eq_false_iff, decide_eq_false_iff_not] at h
 omega
theorem ev_long (x : List Al) : Ev Try.prog 44 [.sl 3 (x.map alD)] (.bool (longB x)) := by
 have hll : (x.map alD).length = x.length := List.length_map _
 by_cases h0 : 30 < x.length
 ·rw [longB, decide_eq_true h0, Bool.true_or]
  refine ev_of_awp tysOk mixed (fn := Try.f44) Try.func44 rfl rfl rfl ?_
  conv => whnf
  repeat' (first|((with_reducible refine Split.dec (fun _=>?_) (fun _=>?_))<;>conv=>whnf)|(exfalso;first|omega|contradiction)|fail)
  all_goals first
   | rfl
   |(exfalso; omega)
 rw [longB, decide_eq_false h0, Bool.false_or]
 refine ev_of_awp tysOk mixed (fn := Try.f44) Try.func44 rfl rfl rfl ?_
 conv => whnf
 repeat' (first|((with_reducible refine Split.dec (fun _=>?_) (fun _=>?_))<;>conv=>whnf)|(exfalso;first|omega|contradiction)|fail)
 all_goals first
  |(exfalso; omega)
  | skip
 refine LoopK.o3 (fun i : Nat => i ≤ x.length ∧ ∀ a ∈ x.take i, decide (40 < a.pit.size) = false) (fun i => [(3, .d (iD i))]) (fun _ => []) (fun i => x.length - i) 0 ⟨by omega, by simp⟩ (by refine ⟨?_, ?_, rfl⟩<;>(repeat' (first|exact True.intro|exact rfl|(refine ⟨?_,?_⟩)|fail));done) ?_
 rintro i ⟨hi, hp⟩
 by_cases hil : i < x.length
 ·obtain ⟨a, ha⟩ := some_of_lt hil
  have haD : (x.map alD)[(i : Int).toNat]? = some (D.agg [iD a.n, .str a.pit, iD a.vol]) := by rw [Int.toNat_natCast, List.getElem?_map, ha]; rfl
  by_cases hbig : 40 < a.pit.size
  ·rw [show (x.any fun a => decide (40 < a.pit.size)) = true from List.any_eq_true.2 ⟨a, List.mem_of_getElem? ha, decide_eq_true hbig⟩]
   conv => whnf
   repeat' (first|((refine PickE.mk _ haD ?_);conv=>whnf)|((with_reducible refine Split.dec (fun _=>?_) (fun _=>?_))<;>conv=>whnf)|((with_reducible refine Need.mk ?_ ?_);(first|omega|rfl|decide|(refine ⟨?_,?_⟩<;>simp<;>omega)|(simp;omega));conv=>whnf)|((with_reducible refine Wr.inr ?_ ?_);(first|omega|(simp;omega));conv=>whnf)|(exfalso;first|omega|contradiction)|fail)
   all_goals first
    | rfl
    |(exfalso; omega)
  ·conv => whnf
   repeat' (first|((refine PickE.mk _ haD ?_);conv=>whnf)|((with_reducible refine Split.dec (fun _=>?_) (fun _=>?_))<;>conv=>whnf)|((with_reducible refine Need.mk ?_ ?_);(first|omega|rfl|decide|(refine ⟨?_,?_⟩<;>simp<;>omega)|(simp;omega));conv=>whnf)|((with_reducible refine Wr.inr ?_ ?_);(first|omega|(simp;omega));conv=>whnf)|(exfalso;first|omega|contradiction)|fail)
   all_goals first
    |(exfalso; omega)
    | skip
   all_goals refine Again.av (i + 1) ⟨by omega, fun z hz => ?_⟩ (by omega) (by refine ⟨?_, ?_, rfl⟩<;>(repeat' (first|exact True.intro|exact rfl|(refine ⟨?_,?_⟩)|fail));done)
   all_goals
    rw [take_snoc ha] at hz
    rcases List.mem_append.1 hz with hz | hz
    ·exact hp z hz
    ·rw [List.mem_singleton.1 hz]; exact decide_eq_false hbig
 ·rw [List.take_of_length_le (show x.length ≤ i by omega)] at hp
  rw [show (x.any fun a => decide (40 < a.pit.size)) = false from by simpa only [Bool.not_eq_true] using any_no9 hp]
  conv => whnf
  repeat' (first|((with_reducible refine Split.dec (fun _=>?_) (fun _=>?_))<;>conv=>whnf)|((with_reducible refine Need.mk ?_ ?_);(first|omega|rfl|decide|(refine ⟨?_,?_⟩<;>simp<;>omega)|(simp;omega));conv=>whnf)|(exfalso;first|omega|contradiction)|fail)
  rfl
section
variable {y : Yd} {l : List Bt} {w : Rs}
end
end Go.Proofs.Try
end

section
namespace Go.Proofs.Try
open Go Go.Vm
set_option maxRecDepth 20000
set_option maxHeartbeats 8000000
theorem few_len {l : List Bt} {most lim : Nat} (h : fewB l most lim = true) : l.length ≤ lim + 5 := by
 unfold fewB at h
 rw [Bool.and_eq_true, Bool.not_eq_true'] at h
 have := h.1
 rw [Bool.or_eq_false_iff] at this
 simpa using this.2
end Go.Proofs.Try
end
