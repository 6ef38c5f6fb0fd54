/- Texts DpH DpI DpJ DpT DpU DpV DpW, joined; what is not needed is left out. -/
import Derived.Test.YtocplkidmjejbaaMgI
import Derived.Test.YtocplkidmjejbaaMgH
import Derived.Test.YtocplkidmjejbaaProg
import Derived.Test.YtocplkidmjejbaaMca
section
namespace Go.Proofs.Try
open Go Go.Vm
set_option maxRecDepth 20000
set_option maxHeartbeats 4000000
/-! Disposal: Bulked; refusals. -/
theorem carGo_zero : ∀ {bs : List Bk} {cs : List Int}, carGo bs cs = 0 → ∀ (i : Nat) b c, bs[i]? = some b → cs[i]? = some c → 0 ≤ c ∧ c ≤ b.den - 1
 | [], _, _, i, b, c, hb, _ => by simp at hb
 | _ :: _, [], _, i, b, c, _, hc => by simp at hc
 | x :: bs, z :: cs, h, i, b, c, hb, hc => by
  rw [carGo] at h
  split at h
  ·cases h
  rename_i h1
  cases i with
  | zero =>
   simp at hb hc
   subst hb
   subst hc
   simp [outsideB] at h1
   omega
  | succ i => exact carGo_zero h i b c (by simpa using hb) (by simpa using hc)
structure YdOk (y : Yd) : Prop where
 pits : y.pits.length ≤ 8
 pit : ∀ p ∈ y.pits, PtOk p ∧ nameB p.name = true
 bulk : y.bulk.length ≤ 20
 bk : ∀ f ∈ y.bulk, BkOk f
 carL : y.carry.length = y.bulk.length
 car : ∀ (i : Nat) b c, y.bulk[i]? = some b → y.carry[i]? = some c → 0 ≤ c ∧ c ≤ b.den - 1
 deps : y.deps.length ≤ 200
 vol : volOk y.deps
 room : ∀ p ∈ y.pits, 0 ≤ roomS y p
theorem yd_ok {y : Yd} (h : ydErr y = 0) : YdOk y := by
 unfold ydErr at h
 split at h
 ·cases h
 split at h
 ·contradiction
 rename_i h1
 split at h
 ·cases h
 split at h
 ·contradiction
 rename_i h2
 split at h
 ·cases h
 rename_i h3
 split at h
 ·contradiction
 rename_i h4
 have z1 := nmGo_zero (show nmGo Pt.name ptErr [] y.pits = 0 by simpa using h1)
 have z2 := nmGo_zero (show nmGo Bk.soil bkErr [] y.bulk = 0 by simpa using h2)
 unfold dpsErr at h
 split at h
 ·cases h
 split at h
 ·contradiction
 rename_i h5
 split at h
 ·cases h
 rename_i h6
 refine ⟨by omega, fun p hp => ⟨pt_ok (z1 p hp).1, (z1 p hp).2⟩, by omega, fun f hf => bk_ok (z2 f hf).1, by simpa using h3, carGo_zero (by simpa using h4), by omega, dpGo_vol (by simpa using h5), fun p hp => ?_⟩
 have h6 : y.pits.any (fun p => decide (roomS y p < 0)) = false := by simpa using h6
 have := List.any_eq_false.1 h6 p hp
 simp at this; omega
structure Wok (y : Yd) (b : Bt) (k : Nat) (f : Bk) (c : Int) : Prop where
 yok : YdOk y
 bok : BtOk b
 clk : 0 ≤ b.cls ∧ b.cls ≤ 9
 ixk : facI y b.soil = k
 fat : y.bulk[k]? = some f
 cat : y.carry[k]? = some c
 fo : BkOk f
 co : 0 ≤ c ∧ c ≤ f.den - 1
theorem with_ok {y : Yd} {b : Bt} (h : withErr y b = 0) : ∃ k f c, Wok y b k f c := by
 unfold withErr at h
 split at h
 ·contradiction
 rename_i h0
 have hy := yd_ok (show ydErr y = 0 by simpa using h0)
 unfold batErr at h
 split at h
 ·cases h
 rename_i h1
 split at h
 ·cases h
 rename_i h2
 split at h
 ·cases h
 rename_i h3
 simp [outsideB] at h1 h3
 obtain ⟨k, f, hk, hf, -⟩ := ix_at h2
 obtain ⟨c, hc⟩ := some_of_lt (show k < y.carry.length by rw [hy.carL]; exact lt_of_some hf)
 exact ⟨k, f, c, hy, ⟨by omega, by omega, by omega⟩, by omega, hk, hf, hc, hy.bk f (List.mem_of_getElem? hf), hy.car k f c hf hc⟩
def volN (b : Bt) (f : Bk) (c : Int) : Int := ((b.bed - b.over) * f.num + c) / f.den
def carN (b : Bt) (f : Bk) (c : Int) : Int := ((b.bed - b.over) * f.num + c) % f.den
def accB (p : Pt) (cls : Int) : Bool := p.cls.any fun c => c == cls
theorem ev_IndexInt (l : List Int) (x : Int) (hn : l.length ≤ 1000000) : Ev Try.prog 101 [.sl 1 (l.map iD), iD x] (iD (ixI (fun c => c == x) l)) := by
 have hlen : (l.map iD).length = l.length := List.length_map _
 refine ev_of_awp tysOk mixed (fn := Try.f101) Try.func101 rfl rfl rfl ?_
 conv => whnf
 skip
 refine LoopK.o2 (fun i : Nat => i ≤ l.length ∧ ∀ g ∈ l.take i, (g == x) = false) (fun i => [(8, .d (.int .i64 i))]) (fun _ => []) (fun i => l.length - i) 0 (by simp) (by refine ⟨?_, ?_, rfl⟩<;>(repeat' (first|exact True.intro|exact rfl|(refine ⟨?_,?_⟩)|fail));done) ?_
 rintro i ⟨hi, hp⟩
 by_cases hil : i < l.length
 ·obtain ⟨g, hg⟩ := some_of_lt hil
  conv => whnf
  repeat' (first|((refine PickE.map i hg (by omega) ?_);conv=>whnf)|((with_reducible refine Split.eqz (fun _=>?_) (fun _=>?_))<;>conv=>whnf)|((with_reducible refine Split.dec (fun _=>?_) (fun _=>?_))<;>conv=>whnf)|((with_reducible refine Need.mk ?_ ?_);(first|omega|rfl|decide|(refine ⟨?_,?_⟩<;>simp<;>omega)|(simp;omega));conv=>whnf)|((with_reducible refine Wr.inr ?_ ?_);(first|omega|(simp;omega));conv=>whnf)|(exfalso;first|omega|contradiction)|fail)
  ·have e : l.findIdx? (fun c => c == x) = some i := by
    rw [List.findIdx?_eq_some_iff_getElem]
    refine ⟨by omega, by rw [(List.getElem?_eq_some_iff.1 hg).2]; simp; omega, fun j hj => ?_⟩
    have := hp l[j] (List.mem_take_iff_getElem.2 ⟨j, by omega, rfl⟩)
    rw [this]; decide
   rw [ixI, e]; rfl
  ·refine Again.au (i + 1) ⟨by omega, fun z hz => ?_⟩ (by omega) (by refine ⟨?_, ?_, rfl⟩<;>(repeat' (first|exact True.intro|exact rfl|(refine ⟨?_,?_⟩)|fail));done)
   rw [take_snoc hg] at hz
   rcases List.mem_append.1 hz with hz | hz
   ·exact hp z hz
   ·rw [List.mem_singleton.1 hz]; simp; omega
 ·have e : l.findIdx? (fun c => c == x) = none := by
   rw [List.findIdx?_eq_none_iff]
   intro z hz
   rw [← List.take_of_length_le (show l.length ≤ i by omega)] at hz
   exact hp z hz
  rw [ixI, e]
  conv => whnf
  repeat' (first|((with_reducible refine Split.dec (fun _=>?_) (fun _=>?_))<;>conv=>whnf)|((with_reducible refine Need.mk ?_ ?_);(first|omega|rfl|decide|(refine ⟨?_,?_⟩<;>simp<;>omega)|(simp;omega));conv=>whnf)|(exfalso;first|omega|contradiction)|fail)
  rfl
theorem any_ix {α : Type} {p : α → Bool} {l : List α} : l.any p = decide (¬ ixI p l < 0) := by
 rw [Bool.eq_iff_iff, decide_eq_true_eq]
 constructor
 ·intro h hlt
  obtain ⟨x, hx, hp⟩ := List.any_eq_true.1 h
  unfold ixI at hlt
  cases hf : l.findIdx? p with
  | none => rw [List.findIdx?_eq_none_iff.1 hf x hx] at hp; cases hp
  | some i => rw [hf] at hlt; simp at hlt; omega
 ·intro h
  obtain ⟨i, r, -, hr, hs⟩ := ix_at h
  exact List.any_eq_true.2 ⟨r, List.mem_of_getElem? hr, hs⟩
theorem ev_ContainsInt (l : List Int) (x : Int) (hn : l.length ≤ 1000000) : Ev Try.prog 62 [.sl 1 (l.map iD), iD x] (.bool (l.any fun c => c == x)) := by
 have h := ev_IndexInt l x hn
 rw [any_ix]
 generalize ixI (fun c => c == x) l = i at *
 refine ev_of_awp tysOk mixed (fn := Try.f62) Try.func62 rfl rfl rfl ?_
 conv => whnf
 repeat' (first|((with_reducible refine AltK.l ?_);(conv=>whnf);(first|(refine CallK.mk _ (h) ?_));conv=>whnf)|fail)
 simp only [retOf, D.bool.injEq, decide_eq_decide]; omega
end Go.Proofs.Try
end

section
namespace Go.Proofs.Try
open Go Go.Vm
set_option maxRecDepth 20000
set_option maxHeartbeats 4000000
/-! Disposal: copies of yards; Place. -/
theorem ev_cloned (l : List Int) (hn : l.length ≤ 100000) : Ev Try.prog 72 [.sl 1 (l.map iD)] (.sl 1 (l.map iD)) := by
 have hl : (l.map iD).length = l.length := List.length_map _
 cases l with
 | nil =>
  refine ev_of_awp tysOk mixed (fn := Try.f72) Try.func72 rfl rfl rfl ?_
  conv => whnf
  repeat' (first|((refine Split.is_true rfl ?_);conv=>whnf)|fail)
  rfl
 | cons a r =>
  have hn' : r.length + 1 ≤ 100000 := by simpa using hn
  have hpos : (List.map iD (a :: r)).length = r.length + 1 := by simp
  refine ev_of_awp tysOk mixed (fn := Try.f72) Try.func72 rfl rfl rfl ?_
  conv => whnf
  repeat' (first|((with_reducible refine Split.eqz (fun _=>?_) (fun _=>?_))<;>conv=>whnf)|((with_reducible refine Need.mk ?_ ?_);(first|omega|rfl|decide|(refine ⟨?_,?_⟩<;>simp<;>omega)|(simp;omega));conv=>whnf)|(exfalso;first|omega|contradiction)|fail)
  show (D.sl 1 _) = D.sl 1 _
  congr 1
  exact hmpCpy
end Go.Proofs.Try
end

section
namespace Go.Proofs.Try
open Go Go.Vm
set_option maxRecDepth 20000
set_option maxHeartbeats 8000000
/-! Disposal: Place. -/
theorem ev_ContDp (l : List Dp) (f : Nat) (caps : List D) (p : Dp → Bool) (hn : l.length ≤ 1000000) (hf : ∀ g ∈ l, Ev Try.prog f ([dpD g] ++ caps) (.bool (p g))) :
 Ev Try.prog 68 [.sl 3 (l.map dpD), .fn f caps] (.bool (l.any p)) := by
 have h := ev_IndexDp l f caps p hn hf
 rw [any_ix]
 generalize ixI p l = i at *
 refine ev_of_awp tysOk mixed (fn := Try.f68) Try.func68 rfl rfl rfl ?_
 conv => whnf
 repeat' (first|((with_reducible refine AltK.l ?_);(conv=>whnf);(first|(refine CallK.mk _ (h) ?_));conv=>whnf)|fail)
 simp only [retOf, D.bool.injEq, decide_eq_decide]; omega
theorem ev_deposited1 (d : Dp) (n : Int) : Ev Try.prog 69 [dpD d, .ref [iD n] 0] (.bool (d.batch == n)) := by
 refine ev_of_awp tysOk mixed (fn := Try.f69) Try.func69 rfl rfl rfl ?_
 conv => whnf
 skip
 rfl
def depB (y : Yd) (n : Int) : Bool := y.deps.any fun x => x.batch == n
theorem ev_deposited (y : Yd) (n : Int) (hn : y.deps.length ≤ 1000000) : Ev Try.prog 31 [ydD y, iD n] (.bool (depB y n)) := by
 have h := ev_ContDp y.deps 69 [.ref [iD n] 0] (fun x => x.batch == n) hn (fun d _ => ev_deposited1 d n)
 refine ev_of_awp tysOk mixed (fn := Try.f31) Try.func31 rfl rfl rfl ?_
 conv => whnf
 repeat' (first|((with_reducible refine AltK.l ?_);(conv=>whnf);(first|(refine CallK.mk _ (h) ?_));conv=>whnf)|fail)
 rfl
end Go.Proofs.Try
end

section
namespace Go.Proofs.Try
open Go Go.Vm
set_option maxRecDepth 20000
set_option maxHeartbeats 4000000
/-! The assignment of batches to pits: what the code computes, in plain terms. A function gives nothing where its steps do not suffice or a number leaves its limits. -/
structure Rs where
 bs : List (Nat × Int)
 ps : List (Nat × Int)
 q : List Nat
def hasN (m : List (Nat × Int)) (k : Nat) : Bool := m.any fun e => e.1 == k
def getZ (m : List (Nat × Int)) (k : Nat) : Int := match m.find? fun e => e.1 == k with
 | some e => e.2
 | none => 0
def cellZ (fl : List (List Int)) (b p : Nat) : Int := (fl.getD b []).getD p 0
def leftF (vol : List Int) (fl : List (List Int)) (b : Nat) : Int := vol.getD b 0 - (fl.getD b []).sum
def freeF (room : List Int) (fl : List (List Int)) (p : Nat) : Int := room.getD p 0 - (fl.map fun r => r.getD p 0).sum
def stO (fl : List (List Int)) (p : Nat) (s : Rs) (o : Nat) : Rs := if hasN s.bs o = true then s else if 0 < cellZ fl o p then ⟨s.bs ++ [(o, (p : Int))], s.ps, s.q ++ [o]⟩ else s
def stP (acc : Nat → Nat → Bool) (L : Nat) (fl : List (List Int)) (b : Nat) (s : Rs) (p : Nat) : Rs :=
 if hasN s.ps p = true then s else if acc p b = false then s else (List.range L).foldl (stO fl p) ⟨s.bs, s.ps ++ [(p, (b : Int))], s.q⟩
def rsGo (acc : Nat → Nat → Bool) (P L : Nat) (fl : List (List Int)) : Nat → Rs → Option Rs
 | 0, s => if s.q = [] then some s else none
 | n + 1, s => match s.q with
  | [] => some s
  | b :: _ => rsGo acc P L fl n ⟨((List.range P).foldl (stP acc L fl b) s).bs, ((List.range P).foldl (stP acc L fl b) s).ps, ((List.range P).foldl (stP acc L fl b) s).q.tail⟩
def st1 (vol : List Int) (fl : List (List Int)) (s : Rs) (b : Nat) : Rs := if 0 < leftF vol fl b then ⟨s.bs ++ [(b, -1)], s.ps, s.q ++ [b]⟩ else s
def rs0 (L : Nat) (vol : List Int) (fl : List (List Int)) : Rs := (List.range L).foldl (st1 vol fl) ⟨[], [], []⟩
def reachF (acc : Nat → Nat → Bool) (P L n : Nat) (vol : List Int) (fl : List (List Int)) : Option Rs := rsGo acc P L fl n (rs0 L vol fl)
def pathF (P L : Nat) (vol : List Int) (fl : List (List Int)) (w : Rs) : Nat → Nat → Int → Option (List (Int × Int × Int) × Int)
 | 0, _, _ => none
 | n + 1, p, a =>
  if hasN w.ps p = true ∧ 0 ≤ getZ w.ps p ∧ getZ w.ps p < L ∧ hasN w.bs (getZ w.ps p).toNat = true ∧ getZ w.bs (getZ w.ps p).toNat < P then
   if getZ w.bs (getZ w.ps p).toNat < 0 then some ([(getZ w.ps p, (p : Int), getZ w.bs (getZ w.ps p).toNat)], minI a (leftF vol fl (getZ w.ps p).toNat))
   else match pathF P L vol fl w n (getZ w.bs (getZ w.ps p).toNat).toNat (minI a (cellZ fl (getZ w.ps p).toNat (getZ w.bs (getZ w.ps p).toNat).toNat)) with
    | some r => some ((getZ w.ps p, (p : Int), getZ w.bs (getZ w.ps p).toNat) :: r.1, r.2)
    | none => none
  else none
def okZ (x : Int) : Bool := decide (0 ≤ x) && decide (x ≤ 100000000000000000)
def okFl (fl : List (List Int)) : Bool := fl.all fun r => r.all okZ
def addF (fl : List (List Int)) (b p : Nat) (a : Int) : List (List Int) := fl.set b ((fl.getD b []).set p (cellZ fl b p + a))
def apSt (a : Int) (fl : List (List Int)) (x : Int × Int × Int) : List (List Int) :=
 if 0 ≤ x.2.2 then addF (addF fl x.1.toNat x.2.1.toNat a) x.1.toNat x.2.2.toNat (-a) else addF fl x.1.toNat x.2.1.toNat a
def stepOk (P L : Nat) (x : Int × Int × Int) : Bool := decide (0 ≤ x.1) && decide (x.1 < L) && decide (0 ≤ x.2.1) && decide (x.2.1 < P) && decide (x.2.2 < P)
def apF (P L : Nat) (a : Int) : List (List Int) → List (Int × Int × Int) → Option (List (List Int))
 | fl, [] => some fl
 | fl, x :: r => if stepOk P L x = true ∧ okFl (apSt a fl x) = true then apF P L a (apSt a fl x) r else none
def pushF (acc : Nat → Nat → Bool) (P L n : Nat) (vol room : List Int) (fl : List (List Int)) (pit : Nat) : Option (Option (List (List Int))) :=
 match reachF acc P L n vol fl with
 | none => none
 | some w => if hasN w.ps pit = false ∨ freeF room fl pit = 0 then some none else
  match pathF P L vol fl w n pit (freeF room fl pit) with
  | none => none
  | some (st, a) => match apF P L a fl st with
   | none => none
   | some fl' => some (some fl')
def fillF (acc : Nat → Nat → Bool) (P L n : Nat) (vol room : List Int) (pit : Nat) : Nat → List (List Int) → Option (List (List Int))
 | 0, _ => none
 | k + 1, fl => match pushF acc P L n vol room fl pit with
  | none => none
  | some none => some fl
  | some (some fl') => fillF acc P L n vol room pit k fl'
def fillsF (acc : Nat → Nat → Bool) (P L n k : Nat) (vol room : List Int) : List Nat → List (List Int) → Option (List (List Int))
 | [], fl => some fl
 | p :: r, fl => match fillF acc P L n vol room p k fl with
  | none => none
  | some fl' => fillsF acc P L n k vol room r fl'
structure Tf where
 bs : List Int
 ps : List Int
 again : Bool
def okT (x : Int) : Bool := decide (-1000000000000 ≤ x) && decide (x ≤ 1000000000000)
def tf1 (price : Nat → Int) (b : Nat) (s : Tf) (p : Nat) : Tf := if price p + s.ps.getD p 0 < s.bs.getD b 0 then ⟨s.bs.set b (price p + s.ps.getD p 0), s.ps, true⟩ else s
def tf2 (price : Nat → Int) (fl : List (List Int)) (b : Nat) (s : Tf) (p : Nat) : Tf := if 0 < cellZ fl b p ∧ s.bs.getD b 0 - price p < s.ps.getD p 0 then ⟨s.bs, s.ps.set p (s.bs.getD b 0 - price p), true⟩ else s
def tfP (acc : Nat → Nat → Bool) (price : Nat → Int) (fl : List (List Int)) (b : Nat) (s : Tf) (p : Nat) : Tf := if acc p b = true then tf2 price fl b (tf1 price b s p) p else s
def tfB (acc : Nat → Nat → Bool) (price : Nat → Int) (fl : List (List Int)) (P : Nat) (s : Tf) (b : Nat) : Tf := (List.range P).foldl (tfP acc price fl b) s
def tfR (acc : Nat → Nat → Bool) (price : Nat → Int) (fl : List (List Int)) (P L : Nat) (s : Tf) : Tf := (List.range L).foldl (tfB acc price fl P) ⟨s.bs, s.ps, false⟩
def okTf (s : Tf) : Bool := s.bs.all okT && s.ps.all okT
def tfGo (acc : Nat → Nat → Bool) (price : Nat → Int) (fl : List (List Int)) (P L : Nat) : Nat → Tf → Option Tf
 | 0, s => if s.again = false then some s else none
 | n + 1, s => if s.again = false then some s else if okTf s = true then tfGo acc price fl P L n (tfR acc price fl P L s) else none
end Go.Proofs.Try
end

section
namespace Go.Proofs.Try
open Go Go.Vm
set_option maxRecDepth 20000
set_option maxHeartbeats 4000000
/-! The task: its boxes; left, free, accepts. -/
def tkX (y : Yd) (l : List Bt) (vol room : List Int) (fl : List (List Int)) : List (Nat × Bx) :=
 [(1003, .mat 25 3 0 (fl.map fun r => some (r.map iD))), (1002, .row 3 1 (room.map iD) false), (1001, .row 3 1 (vol.map iD) false),
  (1000, .var [.d (.sl 6 (y.pits.map ptD)), .d (.sl 3 (y.bulk.map bkD)), .d (.sl 3 (y.deps.map dpD)), .d (.sl 1 (y.carry.map iD)), .d (.sl 5 (l.map btD)), .own 1001 1 (vol.map iD).length, .own 1002 1 (room.map iD).length, .own 1003 1 fl.length] false)]
theorem PickR.map {α : Type} {f : α → List D} {l : List α} {x : α} {i : Nat} {k : List D → Prop} (n : Nat) (h : l[n]? = some x) (hn : i = n) (r : k (f x)) : PickR (l.map fun a => some (f a)) i k := by
 subst hn
 exact .mk (f x) (by rw [List.getElem?_map, h]; rfl) r
structure TkOk (y : Yd) (l : List Bt) (vol room : List Int) (fl : List (List Int)) : Prop where
 hP : y.pits.length ≤ 8
 hL : l.length ≤ 12
 hv : vol.length = l.length
 hr : room.length = y.pits.length
 hf : fl.length = l.length
 row : ∀ r ∈ fl, r.length = y.pits.length
 vb : ∀ v ∈ vol, 0 ≤ v ∧ v ≤ 100000000000000000
 rb : ∀ v ∈ room, 0 ≤ v ∧ v ≤ 100000000000000000
 fb : okFl fl = true
 cl : ∀ p ∈ y.pits, p.cls.length ≤ 1000000
theorem okFl_cell {fl : List (List Int)} (h : okFl fl = true) {r : List Int} (hr : r ∈ fl) {x : Int} (hx : x ∈ r) : 0 ≤ x ∧ x ≤ 100000000000000000 := by
 have := List.all_eq_true.1 (List.all_eq_true.1 h r hr) x hx
 simpa [okZ] using this
theorem sum_bd {M : Int} : ∀ {r : List Int}, (∀ x ∈ r, 0 ≤ x ∧ x ≤ M) → 0 ≤ r.sum ∧ r.sum ≤ r.length * M
 | [], _ => by simp
 | x :: r, h => by
  have h1 := h x (by simp)
  have h2 := sum_bd (r := r) fun z hz => h z (by simp [hz])
  rw [List.sum_cons, List.length_cons]
  have : ((r.length + 1 : Nat) : Int) * M = r.length * M + M := by rw [Int.natCast_add, Int.add_mul]; simp
  omega
theorem xv_left {y : Yd} {l : List Bt} {vol room : List Int} {fl : List (List Int)} (h : TkOk y l vol room fl) {b : Nat} (hb : b < l.length) :
 EvX Try.prog 90 [.ptr 1000 0, .d (iD b)] (tkX y l vol room fl) (.d (iD (leftF vol fl b))) (tkX y l vol room fl) := by
 have hl1 : (vol.map iD).length = vol.length := List.length_map _
 have e1 := h.hv
 have e2 := h.hf
 have e3 := h.hL
 have e4 := h.hP
 obtain ⟨v, hv⟩ := some_of_lt (show b < vol.length by omega)
 obtain ⟨r, hr⟩ := some_of_lt (show b < fl.length by omega)
 have hrm := List.mem_of_getElem? hr
 have hrl := h.row r hrm
 have hrb := fun x hx => okFl_cell h.fb hrm (x := x) hx
 have hvb := h.vb v (List.mem_of_getElem? hv)
 have hl2 : (r.map iD).length = r.length := List.length_map _
 have h0 : v - (r.take 0).sum = v := by simp
 have el : leftF vol fl b = v - r.sum := by simp [leftF, List.getD, hv, hr]
 rw [el]
 unfold tkX
 refine evx_of_awp tysOk mixed (fn := Try.f90) Try.func90 rfl rfl rfl ?_
 conv => whnf
 repeat' (first|((refine PickR.map b hr (by omega) ?_);conv=>whnf)|((refine PickE.map b hv (by omega) ?_);conv=>whnf)|((with_reducible refine Need.mk ?_ ?_);(first|omega|rfl|decide|(refine ⟨?_,?_⟩<;>simp<;>omega)|(simp;omega));conv=>whnf)|fail)
 refine LoopK.o2 (fun i : Nat => i ≤ r.length) (fun i => [(5, .d (iD (v - (r.take i).sum))), (23, .d (iD i)), (21, .sub 1003 0 (b : Int).toNat)]) (fun _ => []) (fun i => r.length - i) 0 (by simp) (by refine ⟨?_, ?_, rfl⟩<;>(repeat' (first|exact True.intro|exact rfl|(refine ⟨?_,?_⟩)|(intro h;cases h;done)|(refine int_congr ?_;(first|omega|(simp;omega)))|(simp;done)|fail));done) ?_
 rintro i hi
 dsimp only at hi ⊢
 have hsb := sum_bd (r := r.take i) fun x hx => hrb x (List.mem_of_mem_take hx)
 have hti : (r.take i).length = i := by rw [List.length_take]; omega
 rw [hti] at hsb
 by_cases hil : i < r.length
 ·obtain ⟨x, hx⟩ := some_of_lt hil
  have hxb := hrb x (List.mem_of_getElem? hx)
  have hs : (r.take (i + 1)).sum = (r.take i).sum + x := by rw [List.take_add_one, hx]; simp
  have hs1 : v - (r.take (i + 1)).sum = v - (r.take i).sum - x := by omega
  conv => whnf
  repeat' (first|((refine PickE.map i hx (by omega) ?_);conv=>whnf)|((refine PickR.map b hr (by omega) ?_);conv=>whnf)|((with_reducible refine Split.dec (fun _=>?_) (fun _=>?_))<;>conv=>whnf)|((with_reducible refine Need.mk ?_ ?_);(first|omega|rfl|decide|(refine ⟨?_,?_⟩<;>simp<;>omega)|(simp;omega));conv=>whnf)|((with_reducible refine Wr.inr ?_ ?_);(first|omega|(simp;omega));conv=>whnf)|(exfalso;first|omega|contradiction)|fail)
  exact Again.au (i + 1) (by omega) (by omega) (by refine ⟨?_, ?_, rfl⟩<;>(repeat' (first|exact True.intro|exact rfl|(refine ⟨?_,?_⟩)|(intro h;cases h;done)|(refine int_congr ?_;(first|omega|(simp;omega)))|(simp;done)|fail));done)
 ·have hie : i = r.length := by omega
  subst hie
  rw [List.take_length]
  conv => whnf
  repeat' (first|((with_reducible refine Split.dec (fun _=>?_) (fun _=>?_))<;>conv=>whnf)|((with_reducible refine Need.mk ?_ ?_);(first|omega|rfl|decide|(refine ⟨?_,?_⟩<;>simp<;>omega)|(simp;omega));conv=>whnf)|(exfalso;first|omega|contradiction)|fail)
  exact ⟨⟨[], (by refine ⟨?_, ?_, rfl⟩<;>(repeat' (first|exact True.intro|exact rfl|(refine ⟨?_,?_⟩)|(intro h;cases h;done)|(simp;done)|fail));done)⟩, rfl⟩
theorem xv_free {y : Yd} {l : List Bt} {vol room : List Int} {fl : List (List Int)} (h : TkOk y l vol room fl) {p : Nat} (hp : p < y.pits.length) :
 EvX Try.prog 91 [.ptr 1000 0, .d (iD p)] (tkX y l vol room fl) (.d (iD (freeF room fl p))) (tkX y l vol room fl) := by
 have hl1 : (room.map iD).length = room.length := List.length_map _
 have e1 := h.hr
 have e2 := h.hf
 have e3 := h.hL
 have e4 := h.hP
 obtain ⟨v, hv⟩ := some_of_lt (show p < room.length by omega)
 have hvb := h.rb v (List.mem_of_getElem? hv)
 have hl2 : (fl.map fun r => some (r.map iD)).length = fl.length := List.length_map _
 have h0 : v - ((fl.take 0).map fun r => r.getD p 0).sum = v := by simp
 have el : freeF room fl p = v - (fl.map fun r => r.getD p 0).sum := by simp [freeF, List.getD, hv]
 rw [el]
 unfold tkX
 refine evx_of_awp tysOk mixed (fn := Try.f91) Try.func91 rfl rfl rfl ?_
 conv => whnf
 repeat' (first|((refine PickE.map p hv (by omega) ?_);conv=>whnf)|((with_reducible refine Need.mk ?_ ?_);(first|omega|rfl|decide|(refine ⟨?_,?_⟩<;>simp<;>omega)|(simp;omega));conv=>whnf)|fail)
 refine LoopK.o2 (fun i : Nat => i ≤ fl.length) (fun i => [(5, .d (iD (v - ((fl.take i).map fun r => r.getD p 0).sum))), (20, .d (iD i))]) (fun _ => []) (fun i => fl.length - i) 0 (by simp) (by refine ⟨?_, ?_, rfl⟩<;>(repeat' (first|exact True.intro|exact rfl|(refine ⟨?_,?_⟩)|(intro h;cases h;done)|(refine int_congr ?_;(first|omega|(simp;omega)))|(simp;done)|fail));done) ?_
 rintro i hi
 dsimp only at hi ⊢
 have hcell : ∀ r ∈ fl, 0 ≤ r.getD p 0 ∧ r.getD p 0 ≤ 100000000000000000 := fun r hr => by
  rw [List.getD]
  cases hx : r[p]? with
  | none => simp
  | some x => exact okFl_cell h.fb hr (List.mem_of_getElem? hx)
 have hsb := sum_bd (M := 100000000000000000) (r := (fl.take i).map fun r => r.getD p 0) fun x hx => by
  obtain ⟨r, hr, rfl⟩ := List.mem_map.1 hx
  exact hcell r (List.mem_of_mem_take hr)
 have hti : ((fl.take i).map fun r => r.getD p 0).length = i := by rw [List.length_map, List.length_take]; omega
 rw [hti] at hsb
 by_cases hil : i < fl.length
 ·obtain ⟨r, hr⟩ := some_of_lt hil
  have hrm := List.mem_of_getElem? hr
  have hrl := h.row r hrm
  have hl3 : (r.map iD).length = r.length := List.length_map _
  obtain ⟨x, hx⟩ := some_of_lt (show p < r.length by omega)
  have hxb := okFl_cell h.fb hrm (List.mem_of_getElem? hx)
  have hxd : r.getD p 0 = x := by simp [List.getD, hx]
  have hs : ((fl.take (i + 1)).map fun r => r.getD p 0).sum = ((fl.take i).map fun r => r.getD p 0).sum + x := by rw [List.take_add_one, hr]; simp [List.getD, hx]
  have hs1 : v - ((fl.take (i + 1)).map fun r => r.getD p 0).sum = v - ((fl.take i).map fun r => r.getD p 0).sum - x := by omega
  conv => whnf
  repeat' (first|((refine PickE.map p hx (by omega) ?_);conv=>whnf)|((refine PickR.map i hr (by omega) ?_);conv=>whnf)|((with_reducible refine Split.dec (fun _=>?_) (fun _=>?_))<;>conv=>whnf)|((with_reducible refine Need.mk ?_ ?_);(first|omega|rfl|decide|(refine ⟨?_,?_⟩<;>simp<;>omega)|(simp;omega));conv=>whnf)|((with_reducible refine Wr.inr ?_ ?_);(first|omega|(simp;omega));conv=>whnf)|(exfalso;first|omega|contradiction)|fail)
  exact Again.au (i + 1) (by omega) (by omega) (by refine ⟨?_, ?_, rfl⟩<;>(repeat' (first|exact True.intro|exact rfl|(refine ⟨?_,?_⟩)|(intro h;cases h;done)|(refine int_congr ?_;(first|omega|(simp;omega)))|(simp;done)|fail));done)
 ·have hie : i = fl.length := by omega
  subst hie
  rw [List.take_length]
  conv => whnf
  repeat' (first|((with_reducible refine Split.dec (fun _=>?_) (fun _=>?_))<;>conv=>whnf)|((with_reducible refine Need.mk ?_ ?_);(first|omega|rfl|decide|(refine ⟨?_,?_⟩<;>simp<;>omega)|(simp;omega));conv=>whnf)|(exfalso;first|omega|contradiction)|fail)
  exact ⟨⟨[], (by refine ⟨?_, ?_, rfl⟩<;>(repeat' (first|exact True.intro|exact rfl|(refine ⟨?_,?_⟩)|(intro h;cases h;done)|(simp;done)|fail));done)⟩, rfl⟩
def accF (y : Yd) (l : List Bt) (p b : Nat) : Bool := match y.pits[p]?, l[b]? with
 | some q, some x => accB q x.cls
 | _, _ => false
theorem xv_accepts {y : Yd} {l : List Bt} {vol room : List Int} {fl : List (List Int)} (h : TkOk y l vol room fl) {p b : Nat} (hp : p < y.pits.length) (hb : b < l.length) :
 EvX Try.prog 63 [.ptr 1000 0, .d (iD p), .d (iD b)] (tkX y l vol room fl) (.d (.bool (accF y l p b))) (tkX y l vol room fl) := by
 have e3 := h.hL
 have e4 := h.hP
 obtain ⟨q, hq⟩ := some_of_lt hp
 obtain ⟨x, hx⟩ := some_of_lt hb
 have hl1 : (y.pits.map ptD).length = y.pits.length := List.length_map _
 have hl2 : (l.map btD).length = l.length := List.length_map _
 have hc := ev_ContainsInt q.cls x.cls (h.cl q (List.mem_of_getElem? hq))
 have el : accF y l p b = q.cls.any fun c => c == x.cls := by simp [accF, hq, hx, accB]
 rw [el]
 unfold tkX
 refine evx_of_awp tysOk mixed (fn := Try.f63) Try.func63 rfl rfl rfl ?_
 conv => whnf
 repeat' (first|((refine PickE.map b hx (by omega) ?_);conv=>whnf)|((refine PickE.map p hq (by omega) ?_);conv=>whnf)|((with_reducible refine Need.mk ?_ ?_);(first|omega|rfl|decide|(refine ⟨?_,?_⟩<;>simp<;>omega)|(simp;omega));conv=>whnf)|((with_reducible refine AltK.l ?_);(conv=>whnf);(first|(refine CallK.mk _ (hc) ?_));conv=>whnf)|fail)
 exact ⟨⟨[], (by refine ⟨?_, ?_, rfl⟩<;>(repeat' (first|exact True.intro|exact rfl|(refine ⟨?_,?_⟩)|(intro h;cases h;done)|(simp;done)|fail));done)⟩, rfl⟩
end Go.Proofs.Try
end

section
namespace Go.Proofs.Try
open Go Go.Vm
set_option maxRecDepth 20000
set_option maxHeartbeats 8000000
/-! The task: reached. -/
def nD (n : Nat) : D := iD (n : Int)
def mapD (m : List (Nat × Int)) : List (D × D) := m.map fun e => (iD (e.1 : Int), iD e.2)
theorem keyEq_nat (a b : Nat) : keyEq (iD (a : Int)) (iD (b : Int)) = decide (a = b) := by
 show (decide (IntKind.i64 = IntKind.i64) && decide ((a : Int) = b)) = decide (a = b)
 by_cases h : a = b
 ·subst h; simp
 ·rw [decide_eq_false h, decide_eq_false (show ¬ (a : Int) = b by omega), Bool.and_false]
theorem mget_mapD (k : Nat) : ∀ m, mget (mapD m) (iD (k : Int)) = if hasN m k = true then some (iD (getZ m k)) else none
 | [] => rfl
 |(a, v) :: r => by
  have ih := mget_mapD k r
  simp only [mapD, List.map_cons] at ih ⊢
  rw [mget, ih, keyEq_nat]
  by_cases h : k = a
  ·subst h; simp [hasN, getZ]
  ·have h' : ¬ a = k := fun e => h e.symm
   have e1 : hasN ((a, v) :: r) k = hasN r k := by simp [hasN, h']
   have e2 : getZ ((a, v) :: r) k = getZ r k := by simp [getZ, h']
   rw [e1, e2]; simp [h]
theorem mput_mapD {m : List (Nat × Int)} {k : Nat} {v : Int} (h : hasN m k = false) : mput (mapD m) (iD (k : Int)) (iD v) = mapD (m ++ [(k, v)]) := by
 rw [mput_new (by rw [mget_mapD, h]; rfl)]
 simp [mapD]
theorem range_snoc {α : Type} (f : α → Nat → α) (s : α) (i : Nat) : (List.range (i + 1)).foldl f s = f ((List.range i).foldl f s) i := by
 rw [List.range_succ, List.foldl_append]; rfl
theorem st1_lt {vol : List Int} {fl : List (List Int)} : ∀ i, ∀ e ∈ ((List.range i).foldl (st1 vol fl) ⟨[], [], []⟩).bs, e.1 < i
 | 0 => by simp
 | i + 1 => by
  have ih := st1_lt (vol := vol) (fl := fl) i
  rw [range_snoc]
  intro e he
  rw [st1] at he
  split at he
  ·rcases List.mem_append.1 he with h | h
   ·exact Nat.lt_succ_of_lt (ih e h)
   ·rw [List.mem_singleton.1 h]; exact Nat.lt_succ_self i
  ·exact Nat.lt_succ_of_lt (ih e he)
theorem st1_new {vol : List Int} {fl : List (List Int)} (i : Nat) : hasN ((List.range i).foldl (st1 vol fl) ⟨[], [], []⟩).bs i = false := by
 rw [hasN, List.any_eq_false]
 intro e he
 have := st1_lt i e he
 simp; omega
theorem st1_len {vol : List Int} {fl : List (List Int)} : ∀ i, ((List.range i).foldl (st1 vol fl) ⟨[], [], []⟩).q.length ≤ i ∧ ((List.range i).foldl (st1 vol fl) ⟨[], [], []⟩).ps = []
 | 0 => by simp
 | i + 1 => by
  have ih := st1_len (vol := vol) (fl := fl) i
  rw [range_snoc]
  rw [st1]
  split
  ·simp only [List.length_append, List.length_singleton]; exact ⟨by omega, ih.2⟩
  ·exact ⟨by omega, ih.2⟩
theorem rs0_lt {vol : List Int} {fl : List (List Int)} {L : Nat} : ∀ b ∈ (rs0 L vol fl).q, b < L := by
 have : ∀ i, ∀ b ∈ ((List.range i).foldl (st1 vol fl) ⟨[], [], []⟩).q, b < i := by
  intro i
  induction i with
  | zero => simp
  | succ i ih =>
   rw [range_snoc, st1]
   split
   ·intro b hb
    rcases List.mem_append.1 hb with h | h
    ·exact Nat.lt_succ_of_lt (ih b h)
    ·rw [List.mem_singleton.1 h]; exact Nat.lt_succ_self i
   ·exact fun b hb => Nat.lt_succ_of_lt (ih b hb)
 exact this L
inductive Qs where
 | own
 | view (pre : List Nat)
 | fin (e : List Nat)
def qV (q : List Nat) : Qs → AV
 | .own => .own 200 1 (q.map nD).length
 | .view pre => .view 200 1 pre.length (pre.length + q.length)
 | .fin _ => .d (.sl 1 [])
def qB (q : List Nat) : Qs → List (Nat × Bx)
 | .own => [(200, .row 3 1 (q.map nD) false)]
 | .view pre => [(200, .row 3 1 ((pre ++ q).map nD) false)]
 | .fin e => [(200, .row 3 1 (e.map nD) true)]
def qN (q : List Nat) : Qs → Nat
 | .own => q.length
 | .view pre => pre.length + q.length
 | .fin _ => 0
def qI (L k : Nat) (q q' : List Nat) : Prop := ∃ t, q' = q ++ t ∧ t.length ≤ k ∧ ∀ x ∈ t, x < L
theorem qI.rfl' {L : Nat} {q : List Nat} : qI L 0 q q := ⟨[], by simp, Nat.le_refl _, by simp⟩
theorem qI.mono {L k k' : Nat} {q q' : List Nat} (h : qI L k q q') (hk : k ≤ k') : qI L k' q q' := by
 obtain ⟨t, h1, h2, h3⟩ := h
 exact ⟨t, h1, by omega, h3⟩
theorem qI.trans {L k k' : Nat} {q q' q'' : List Nat} (h : qI L k q q') (h' : qI L k' q' q'') : qI L (k + k') q q'' := by
 obtain ⟨t, rfl, h2, h3⟩ := h
 obtain ⟨t', rfl, h2', h3'⟩ := h'
 refine ⟨t ++ t', by simp, by rw [List.length_append]; omega, fun x hx => ?_⟩
 rcases List.mem_append.1 hx with h | h
 ·exact h3 x h
 ·exact h3' x h
theorem stO_q {L : Nat} {fl : List (List Int)} {p : Nat} {s : Rs} : ∀ i, i ≤ L → qI L i s.q ((List.range i).foldl (stO fl p) s).q ∧ ((List.range i).foldl (stO fl p) s).ps = s.ps
 | 0, _ => ⟨qI.rfl', rfl⟩
 | i + 1, hi => by
  obtain ⟨ih, ih2⟩ := stO_q (L := L) (fl := fl) (p := p) (s := s) i (by omega)
  rw [range_snoc, stO]
  split
  ·exact ⟨ih.mono (by omega), ih2⟩
  split
  ·exact ⟨ih.trans ⟨[i], rfl, Nat.le_refl _, by simp; omega⟩, ih2⟩
  ·exact ⟨ih.mono (by omega), ih2⟩
theorem stP_q {acc : Nat → Nat → Bool} {L : Nat} {fl : List (List Int)} {b : Nat} {s : Rs} (hL : L ≤ 12) : ∀ i, qI L (12 * i) s.q ((List.range i).foldl (stP acc L fl b) s).q
 | 0 => qI.rfl'
 | i + 1 => by
  have ih := stP_q (acc := acc) (fl := fl) (b := b) (s := s) hL i
  rw [range_snoc, stP]
  split
  ·exact ih.mono (by omega)
  split
  ·exact ih.mono (by omega)
  ·exact qI.mono (k := 12 * i + L) (ih.trans (stO_q L (Nat.le_refl _)).1) (by omega)
end Go.Proofs.Try
end

section
namespace Go.Proofs.Try
open Go Go.Vm
set_option maxRecDepth 20000
set_option maxHeartbeats 40000000
/-! The task: reached (this text is written by gen_reached.py). -/
theorem xv_reached {y : Yd} {l : List Bt} {vol room : List Int} {fl : List (List Int)} (h : TkOk y l vol room fl) {n : Nat} {w : Rs} (hw : reachF (accF y l) y.pits.length l.length n vol fl = some w) (hn : n ≤ 1000) :
 EvX Try.prog 59 [.ptr 1000 0] (tkX y l vol room fl) (.agg [.mp 9, .mp 2009]) (tkX y l vol room fl ++ [(9, .map 3 3 (.int .i64) (mapD w.bs)), (2009, .map 3 3 (.int .i64) (mapD w.ps))]) := by
 have hl1 : (vol.map iD).length = vol.length := List.length_map _
 have hl2 : (l.map btD).length = l.length := List.length_map _
 have e1 := h.hv
 have e2 := h.hf
 have e3 := h.hL
 have e4 := h.hP
 have hlf : (fl.map fun r => some (r.map iD)).length = fl.length := List.length_map _
 have hLf := fun (b : Nat) (hb : b < l.length) => xv_left h hb
 have hAc := fun (p b : Nat) (hp : p < y.pits.length) (hb : b < l.length) => xv_accepts h hp hb
 unfold tkX at hLf hAc ⊢
 refine evx_of_awp tysOk mixed (fn := Try.f59) Try.func59 rfl rfl rfl ?_
 conv => whnf
 repeat' (first|((with_reducible refine Need.mk ?_ ?_);(first|omega|rfl|decide|(refine ⟨?_,?_⟩<;>simp<;>omega)|(simp;omega));conv=>whnf)|fail)
 refine LoopK.o3 (fun i : Nat => i ≤ l.length) (fun i => [(4, .own 200 1 (((List.range i).foldl (st1 vol fl) ⟨[], [], []⟩).q.map nD).length), (21, .d (iD i))])
  (fun i => [(200, .row 3 1 (((List.range i).foldl (st1 vol fl) ⟨[], [], []⟩).q.map nD) false), (13, .map 3 3 (.int .i64) (mapD ((List.range i).foldl (st1 vol fl) ⟨[], [], []⟩).bs))]) (fun i => l.length - i) 0 (by omega) (by refine ⟨?_, ?_, rfl⟩<;>(repeat' (first|exact True.intro|exact rfl|(refine ⟨?_,?_⟩)|(intro h;cases h;done)|(simp;done)|fail));done) ?_
 rintro i hi
 dsimp only at hi ⊢
 by_cases hil : i < l.length
 ·have hc := hLf i hil
  have hnew := st1_new (vol := vol) (fl := fl) i
  have hql := st1_len (vol := vol) (fl := fl) i
  have hstep := range_snoc (st1 vol fl) ⟨[], [], []⟩ i
  have hql2 : (((List.range i).foldl (st1 vol fl) ⟨[], [], []⟩).q.map nD).length = ((List.range i).foldl (st1 vol fl) ⟨[], [], []⟩).q.length := List.length_map _
  generalize (List.range i).foldl (st1 vol fl) ⟨[], [], []⟩ = s at *
  have hmp1 := mput_mapD (v := -1) hnew
  by_cases hz : 0 < leftF vol fl i
  ·have hst : (List.range (i + 1)).foldl (st1 vol fl) ⟨[], [], []⟩ = ⟨s.bs ++ [(i, -1)], s.ps, s.q ++ [i]⟩ := by rw [hstep, st1, if_pos hz]
   generalize leftF vol fl i = z at *
   conv => whnf
   repeat' (first|((with_reducible refine Split.dec (fun _=>?_) (fun _=>?_))<;>conv=>whnf)|((with_reducible refine Need.mk ?_ ?_);(first|omega|rfl|decide|(refine ⟨?_,?_⟩<;>simp<;>omega)|(simp;omega));conv=>whnf)|((with_reducible refine Wr.inr ?_ ?_);(first|omega|(simp;omega));conv=>whnf)|((with_reducible refine AltK.r ?_);(conv=>whnf);(first|(refine CallX.mk _ _ (hc) rfl ?_));conv=>whnf)|(exfalso;first|omega|contradiction)|fail)
   all_goals first
    |(refine Again.av (i + 1) (by omega) (by omega) ?_
      rw [hst]
      exact (by refine ⟨?_, ?_, rfl⟩<;>(repeat' (first|exact True.intro|exact rfl|(refine ⟨?_,?_⟩)|(intro h;cases h;done)|exact map_snoc|(refine own_congr ?_;simp;done)|(simp;done)|exact hmp1|fail));done))
    |(exfalso; omega)
  ·have hst : (List.range (i + 1)).foldl (st1 vol fl) ⟨[], [], []⟩ = s := by rw [hstep, st1, if_neg hz]
   generalize leftF vol fl i = z at *
   conv => whnf
   repeat' (first|((with_reducible refine Split.dec (fun _=>?_) (fun _=>?_))<;>conv=>whnf)|((with_reducible refine Need.mk ?_ ?_);(first|omega|rfl|decide|(refine ⟨?_,?_⟩<;>simp<;>omega)|(simp;omega));conv=>whnf)|((with_reducible refine Wr.inr ?_ ?_);(first|omega|(simp;omega));conv=>whnf)|((with_reducible refine AltK.r ?_);(conv=>whnf);(first|(refine CallX.mk _ _ (hc) rfl ?_));conv=>whnf)|(exfalso;first|omega|contradiction)|fail)
   all_goals first
    |(refine Again.av (i + 1) (by omega) (by omega) ?_
      rw [hst]
      exact (by refine ⟨?_, ?_, rfl⟩<;>(repeat' (first|exact True.intro|exact rfl|(refine ⟨?_,?_⟩)|(intro h;cases h;done)|(simp;done)|fail));done))
    |(exfalso; omega)
 ·have hie : i = l.length := by omega
  subst hie
  have hql := st1_len (vol := vol) (fl := fl) l.length
  have hr0 : (List.range l.length).foldl (st1 vol fl) ⟨[], [], []⟩ = rs0 l.length vol fl := rfl
  rw [hr0] at hql ⊢
  have hgo : rsGo (accF y l) y.pits.length l.length fl n (rs0 l.length vol fl) = some w := hw
  have hq0 : ∀ b ∈ (rs0 l.length vol fl).q, b < l.length := rs0_lt
  clear hr0 hw hi hil
  generalize rs0 l.length vol fl = s0 at *
  have hlen0 : (s0.q.map nD).length = s0.q.length := List.length_map _
  have hmp0 : ([] : List (D × D)) = mapD s0.ps := by rw [hql.2]; rfl
  conv => whnf
  repeat' (first|((with_reducible refine Split.dec (fun _=>?_) (fun _=>?_))<;>conv=>whnf)|(exfalso;first|omega|contradiction)|fail)
  refine LoopK.o3 (fun x : Nat × Rs × Qs => rsGo (accF y l) y.pits.length l.length fl x.1 x.2.1 = some w ∧ qN x.2.1.q x.2.2 + 100 * x.1 ≤ 200000 ∧ (∀ b ∈ x.2.1.q, b < l.length) ∧ (∀ e, x.2.2 = .fin e → x.2.1.q = []) ∧ (∀ p, x.2.2 = .view p → x.2.1.q ≠ []))
   (fun x => [(4, qV x.2.1.q x.2.2)]) (fun x => qB x.2.1.q x.2.2 ++ [(13, .map 3 3 (.int .i64) (mapD x.2.1.bs)), (14, .map 3 3 (.int .i64) (mapD x.2.1.ps))]) (fun x => x.1) (n, s0, .own) ⟨hgo, by simp only [qN];omega, hq0, by simp, by simp⟩ (by refine ⟨?_, ?_, rfl⟩<;>(repeat' (first|exact True.intro|exact rfl|(refine ⟨?_,?_⟩)|(intro h;cases h;done)|(simp;done)|exact hmp0|fail));done) ?_
  clear hmp0 hgo hq0 hql
  rintro ⟨n, s, o⟩ ⟨hgo, hqn, hqb, ho1, ho2⟩
  dsimp only at hgo hqn hqb ho1 ho2 ⊢
  by_cases hq : s.q = []
  ·have hs : s = w := by cases n <;> simpa [rsGo, hq] using hgo
   subst hs
   rcases o with _ | pre | e
   ·dsimp only [qV, qB]
    rw [hq]
    conv => whnf
    repeat' (first|((with_reducible refine Split.is_false ?_ ?_);decide;conv=>whnf)|((with_reducible refine Need.mk ?_ ?_);(first|omega|rfl|decide|(refine ⟨?_,?_⟩<;>simp<;>omega)|(simp;omega));conv=>whnf)|fail)
    exact ⟨⟨[(9, some 13), (2009, some 14)], (by refine ⟨?_, ?_, rfl⟩<;>(repeat' (first|exact True.intro|exact rfl|(refine ⟨?_,?_⟩)|(intro h;cases h;done)|(simp;done)|fail));done)⟩, rfl⟩
   ·exact absurd hq (ho2 pre rfl)
   ·dsimp only [qV, qB]
    conv => whnf
    repeat' (first|((with_reducible refine Split.is_false ?_ ?_);decide;conv=>whnf)|((with_reducible refine Need.mk ?_ ?_);(first|omega|rfl|decide|(refine ⟨?_,?_⟩<;>simp<;>omega)|(simp;omega));conv=>whnf)|fail)
    exact ⟨⟨[(9, some 13), (2009, some 14)], (by refine ⟨?_, ?_, rfl⟩<;>(repeat' (first|exact True.intro|exact rfl|(refine ⟨?_,?_⟩)|(intro h;cases h;done)|(simp;done)|fail));done)⟩, rfl⟩
  obtain ⟨b, r, hbr⟩ := List.exists_cons_of_ne_nil hq
  cases n with
  | zero => rw [rsGo, if_neg hq] at hgo; cases hgo
  | succ n =>
  rw [rsGo, hbr] at hgo
  dsimp only at hgo
  obtain ⟨Z, hZ⟩ : ∃ Z : Nat → Rs, ∀ i, Z i = (List.range i).foldl (stP (accF y l) l.length fl b) s := ⟨_, fun _ => rfl⟩
  rw [← hZ] at hgo
  have hZ0 : Z 0 = s := hZ 0
  have hZq : ∀ i, qI l.length (12 * i) s.q (Z i).q := fun i => by rw [hZ]; exact stP_q e3 i
  have hZs : ∀ i, Z (i + 1) = stP (accF y l) l.length fl b (Z i) i := fun i => by rw [hZ, range_snoc, ← hZ]
  clear hZ
  have hbL : b < l.length := hqb b (by rw [hbr]; simp)
  have hlq : (s.q.map nD).length = s.q.length := List.length_map _
  have hlq2 : s.q.length = r.length + 1 := by rw [hbr]; simp
  have h0 : s.q[0]? = some b := by rw [hbr]; rfl
  have h1 : ∀ pre : List Nat, (pre ++ s.q)[pre.length]? = some b := fun pre => by rw [hbr]; simp
  have hlp : (y.pits.map ptD).length = y.pits.length := List.length_map _
  rcases o with _ | pre | e
  rotate_left 2
  ·exact absurd (ho1 e rfl) hq
  ·dsimp only [qV, qB]
   dsimp only [qN] at hqn
   conv => whnf
   repeat' (first|((refine PickE.map 0 h0 (by omega) ?_);conv=>whnf)|((with_reducible refine Split.dec (fun _=>?_) (fun _=>?_))<;>conv=>whnf)|((with_reducible refine Need.mk ?_ ?_);(first|omega|rfl|decide|(refine ⟨?_,?_⟩<;>simp<;>omega)|(simp;omega));conv=>whnf)|(exfalso;first|omega|contradiction)|fail)
   refine LoopK.o3 (fun x : Nat × Qs => x.1 ≤ y.pits.length ∧ (x.2 = .own) ∧ qN (Z x.1).q x.2 + 100 * (n + 1) ≤ 200000 + 12 * x.1)
    (fun x => [(4, qV (Z x.1).q x.2), (50, .d (iD x.1)), (36, .junk), (41, .junk), (42, .junk)]) (fun x => qB (Z x.1).q x.2 ++ [(13, .map 3 3 (.int .i64) (mapD (Z x.1).bs)), (14, .map 3 3 (.int .i64) (mapD (Z x.1).ps))])
    (fun x => y.pits.length - x.1) (0, .own) ⟨by omega, rfl, by dsimp only [qN];rw [hZ0];omega⟩ (by dsimp only [qV, qB];rw [hZ0];exact (by refine ⟨?_, ?_, rfl⟩<;>(repeat' (first|exact True.intro|exact rfl|(refine ⟨?_,?_⟩)|(intro h;cases h;done)|(simp;done)|fail));done)) ?_
   rintro ⟨i, o⟩ ⟨hi, hof, hon⟩
   dsimp only at hi hof hon ⊢
   have hzs := hZs i
   by_cases hil : i < y.pits.length
   ·generalize hu : Z i = u at *
    have hm := mget_mapD i u.ps
    have hac0 := hAc i b hil hbL
    cases hk : hasN u.ps i with
    | true =>
     rw [hk, if_pos rfl] at hm
     have hst : Z (i + 1) = u := by rw [hzs, stP, if_pos hk]
     subst hof
     dsimp only [qV, qB]
     dsimp only [qN] at hon
     conv => whnf
     repeat' (first|((with_reducible refine Split.dec (fun _=>?_) (fun _=>?_))<;>conv=>whnf)|((with_reducible refine AltK.l ?_);(conv=>whnf);(with_reducible refine Need.mk ?_ ?_);(first|omega|(refine ⟨?_,?_⟩<;>simp<;>omega)|(simp;omega));conv=>whnf)|((with_reducible refine Need.mk ?_ ?_);(first|omega|rfl|decide|(refine ⟨?_,?_⟩<;>simp<;>omega)|(simp;omega));conv=>whnf)|(exfalso;first|omega|contradiction)|fail)
     refine LookK.mk (fun v hv => ?_) (fun hv => ?_)
     ·conv => whnf
      repeat' (first|((with_reducible refine Split.of_true ?_);conv=>whnf)|((with_reducible refine Wr.inr ?_ ?_);(first|omega|(simp;omega));conv=>whnf)|fail)
      refine Again.av (i + 1, .own) ⟨by dsimp only; omega, rfl, by dsimp only [qN]; rw [hst]; (first | omega | (simp only [List.length_append, List.length_singleton]; omega))⟩ (by dsimp only; omega) ?_
      dsimp only [qV, qB]
      rw [hst]
      exact (by refine ⟨?_, ?_, rfl⟩<;>(repeat' (first|exact True.intro|exact rfl|(refine ⟨?_,?_⟩)|(intro h;cases h;done)|(simp;done)|fail));done)
     ·rw [hm] at hv; cases hv
    | false =>
     rw [hk, if_neg (by decide)] at hm
     cases hac : accF y l i b with
     | false =>
      have hst : Z (i + 1) = u := by rw [hzs, stP, if_neg (by rw [hk]; decide), if_pos hac]
      rw [hac] at hac0
      subst hof
      dsimp only [qV, qB]
      dsimp only [qN] at hon
      conv => whnf
      repeat' (first|((with_reducible refine Split.dec (fun _=>?_) (fun _=>?_))<;>conv=>whnf)|((with_reducible refine AltK.l ?_);(conv=>whnf);(with_reducible refine Need.mk ?_ ?_);(first|omega|(refine ⟨?_,?_⟩<;>simp<;>omega)|(simp;omega));conv=>whnf)|((with_reducible refine Need.mk ?_ ?_);(first|omega|rfl|decide|(refine ⟨?_,?_⟩<;>simp<;>omega)|(simp;omega));conv=>whnf)|(exfalso;first|omega|contradiction)|fail)
      refine LookK.mk (fun v hv => ?_) (fun hv => ?_)
      ·rw [hm] at hv; cases hv
      ·conv => whnf
       repeat' (first|((with_reducible refine Split.of_false ?_);conv=>whnf)|(with_reducible refine Split.neg ?_)|((with_reducible refine Wr.inr ?_ ?_);(first|omega|(simp;omega));conv=>whnf)|((with_reducible refine AltK.r ?_);(conv=>whnf);(first|(refine CallX.mk _ _ (hac0) rfl ?_));conv=>whnf)|fail)
       refine Again.av (i + 1, .own) ⟨by dsimp only; omega, rfl, by dsimp only [qN]; rw [hst]; (first | omega | (simp only [List.length_append, List.length_singleton]; omega))⟩ (by dsimp only; omega) ?_
       dsimp only [qV, qB]
       rw [hst]
       exact (by refine ⟨?_, ?_, rfl⟩<;>(repeat' (first|exact True.intro|exact rfl|(refine ⟨?_,?_⟩)|(intro h;cases h;done)|(simp;done)|fail));done)
     | true =>
      obtain ⟨V, hV⟩ : ∃ V : Nat → Rs, ∀ k, V k = (List.range k).foldl (stO fl i) ⟨u.bs, u.ps ++ [(i, (b : Int))], u.q⟩ := ⟨_, fun _ => rfl⟩
      have hst : Z (i + 1) = V l.length := by rw [hzs, stP, if_neg (by rw [hk]; decide), if_neg (by rw [hac]; decide), hV]
      have hV0 : V 0 = ⟨u.bs, u.ps ++ [(i, (b : Int))], u.q⟩ := hV 0
      have hVs : ∀ k, V (k + 1) = stO fl i (V k) k := fun k => by rw [hV, range_snoc, ← hV]
      have hVp : (V l.length).ps = u.ps ++ [(i, (b : Int))] := by rw [hV]; exact (stO_q (L := l.length) l.length (Nat.le_refl _)).2
      clear hV
      rw [hac] at hac0
      have hmp1 : mput (mapD u.ps) (iD (i : Int)) (nD b) = mapD (u.ps ++ [(i, (b : Int))]) := mput_mapD hk
      subst hof
      dsimp only [qV, qB]
      dsimp only [qN] at hon
      conv => whnf
      repeat' (first|((with_reducible refine Split.dec (fun _=>?_) (fun _=>?_))<;>conv=>whnf)|((with_reducible refine AltK.l ?_);(conv=>whnf);(with_reducible refine Need.mk ?_ ?_);(first|omega|(refine ⟨?_,?_⟩<;>simp<;>omega)|(simp;omega));conv=>whnf)|((with_reducible refine Need.mk ?_ ?_);(first|omega|rfl|decide|(refine ⟨?_,?_⟩<;>simp<;>omega)|(simp;omega));conv=>whnf)|(exfalso;first|omega|contradiction)|fail)
      refine LookK.mk (fun v hv => ?_) (fun hv => ?_)
      ·rw [hm] at hv; cases hv
      ·conv => whnf
       repeat' (first|((with_reducible first|refine Split.of_true ?_|refine Split.of_false ?_);conv=>whnf)|(with_reducible refine Split.neg ?_)|((with_reducible refine Need.mk ?_ ?_);(first|omega|rfl|decide|(refine ⟨?_,?_⟩<;>simp<;>omega)|(simp;omega));conv=>whnf)|((with_reducible refine AltK.r ?_);(conv=>whnf);(first|(refine CallX.mk _ _ (hac0) rfl ?_));conv=>whnf)|fail)
       refine LoopK.o3 (fun x : Nat × Qs => x.1 ≤ l.length ∧ (x.2 = .own) ∧ qN (V x.1).q x.2 + 100 * (n + 1) ≤ 200000 + 12 * i + x.1)
        (fun x => [(4, qV (V x.1).q x.2), (77, .d (iD x.1)), (36, .junk), (41, .junk), (42, .junk)]) (fun x => qB (V x.1).q x.2 ++ [(13, .map 3 3 (.int .i64) (mapD (V x.1).bs)), (14, .map 3 3 (.int .i64) (mapD (u.ps ++ [(i, (b : Int))])))])
        (fun x => l.length - x.1) (0, .own) ⟨by omega, rfl, by dsimp only [qN];rw [hV0];dsimp only;omega⟩ (by dsimp only [qV, qB];rw [hV0];exact (by refine ⟨?_, ?_, rfl⟩<;>(repeat' (first|exact True.intro|exact rfl|(refine ⟨?_,?_⟩)|(intro h;cases h;done)|(simp;done)|exact hmp1|fail));done)) ?_
       clear hon
       rintro ⟨k, o⟩ ⟨hk', hof, hon⟩
       dsimp only at hk' hof hon ⊢
       have hvs := hVs k
       by_cases hkl : k < l.length
       ·generalize hv' : V k = v at *
        have hm2 := mget_mapD k v.bs
        have hlv : (v.q.map nD).length = v.q.length := List.length_map _
        have hlv2 : ∀ pr : List Nat, ((pr ++ v.q).map nD).length = pr.length + v.q.length := fun pr => by simp
        cases hkb : hasN v.bs k with
        | true =>
         rw [hkb, if_pos rfl] at hm2
         have hst2 : V (k + 1) = v := by rw [hvs, stO, if_pos hkb]
         subst hof
         dsimp only [qV, qB]
         dsimp only [qN] at hon
         conv => whnf
         repeat' (first|((with_reducible refine Split.dec (fun _=>?_) (fun _=>?_))<;>conv=>whnf)|((with_reducible refine Need.mk ?_ ?_);(first|omega|rfl|decide|(refine ⟨?_,?_⟩<;>simp<;>omega)|(simp;omega));conv=>whnf)|((with_reducible refine Wr.inr ?_ ?_);(first|omega|(simp;omega));conv=>whnf)|(exfalso;first|omega|contradiction)|fail)
         refine LookK.mk (fun v hv => ?_) (fun hv => ?_)
         ·conv => whnf
          repeat' (first|((with_reducible first|refine Split.of_true ?_|refine Split.of_false ?_);conv=>whnf)|(with_reducible refine Split.neg ?_)|((with_reducible refine Wr.inr ?_ ?_);(first|omega|(simp;omega));conv=>whnf)|fail)
          refine Again.av (k + 1, .own) ⟨by dsimp only; omega, rfl, by dsimp only [qN]; rw [hst2]; (first | omega | (simp only [List.length_append, List.length_singleton]; omega))⟩ (by dsimp only; omega) ?_
          dsimp only [qV, qB]
          rw [hst2]
          exact (by refine ⟨?_, ?_, rfl⟩<;>(repeat' (first|exact True.intro|exact rfl|(refine ⟨?_,?_⟩)|(intro h;cases h;done)|(simp;done)|fail));done)
         ·rw [hm2] at hv; cases hv
        | false =>
         rw [hkb, if_neg (by decide)] at hm2
         obtain ⟨rw', hrw⟩ := some_of_lt (show k < fl.length by omega)
         have hrwm := List.mem_of_getElem? hrw
         have hrwl := h.row rw' hrwm
         obtain ⟨x, hx⟩ := some_of_lt (show i < rw'.length by omega)
         have hcx : cellZ fl k i = x := by simp [cellZ, List.getD, hrw, hx]
         have hlr : (rw'.map iD).length = rw'.length := List.length_map _
         have hmp2 : mput (mapD v.bs) (iD (k : Int)) (iD (i : Int)) = mapD (v.bs ++ [(k, (i : Int))]) := mput_mapD hkb
         by_cases hx0 : 0 < x
         ·have hst2 : V (k + 1) = ⟨v.bs ++ [(k, (i : Int))], v.ps, v.q ++ [k]⟩ := by rw [hvs, stO, if_neg (by rw [hkb]; decide), if_pos (by rw [hcx]; exact hx0)]
          subst hof
          dsimp only [qV, qB]
          dsimp only [qN] at hon
          conv => whnf
          repeat' (first|((with_reducible refine Split.dec (fun _=>?_) (fun _=>?_))<;>conv=>whnf)|((with_reducible refine Need.mk ?_ ?_);(first|omega|rfl|decide|(refine ⟨?_,?_⟩<;>simp<;>omega)|(simp;omega));conv=>whnf)|((with_reducible refine Wr.inr ?_ ?_);(first|omega|(simp;omega));conv=>whnf)|(exfalso;first|omega|contradiction)|fail)
          refine LookK.mk (fun v hv => ?_) (fun hv => ?_)
          ·rw [hm2] at hv; cases hv
          ·conv => whnf
           repeat' (first|((refine PickE.map i hx (by omega) ?_);conv=>whnf)|((refine PickR.map k hrw (by omega) ?_);conv=>whnf)|((with_reducible refine Split.of_false ?_);conv=>whnf)|(with_reducible refine Split.neg ?_)|((with_reducible refine Split.dec (fun _=>?_) (fun _=>?_))<;>conv=>whnf)|((with_reducible refine Need.mk ?_ ?_);(first|omega|rfl|decide|(refine ⟨?_,?_⟩<;>simp<;>omega)|(simp;omega));conv=>whnf)|((with_reducible refine Wr.inr ?_ ?_);(first|omega|(simp;omega));conv=>whnf)|(exfalso;first|omega|contradiction)|fail)
           all_goals first
            |(exfalso; omega)
            | skip
           refine Again.av (k + 1, .own) ⟨by dsimp only; omega, rfl, by dsimp only [qN]; rw [hst2]; (first | omega | (simp only [List.length_append, List.length_singleton]; omega))⟩ (by dsimp only; omega) ?_
           dsimp only [qV, qB]
           rw [hst2]
           exact (by refine ⟨?_, ?_, rfl⟩<;>(repeat' (first|exact True.intro|exact rfl|(refine ⟨?_,?_⟩)|(intro h;cases h;done)|exact map_snoc|(refine own_congr ?_;simp;done)|(simp;done)|exact hmp2|fail));done)
         ·have hst2 : V (k + 1) = v := by rw [hvs, stO, if_neg (by rw [hkb]; decide), if_neg (by rw [hcx]; exact hx0)]
          subst hof
          dsimp only [qV, qB]
          dsimp only [qN] at hon
          conv => whnf
          repeat' (first|((with_reducible refine Split.dec (fun _=>?_) (fun _=>?_))<;>conv=>whnf)|((with_reducible refine Need.mk ?_ ?_);(first|omega|rfl|decide|(refine ⟨?_,?_⟩<;>simp<;>omega)|(simp;omega));conv=>whnf)|((with_reducible refine Wr.inr ?_ ?_);(first|omega|(simp;omega));conv=>whnf)|(exfalso;first|omega|contradiction)|fail)
          refine LookK.mk (fun v hv => ?_) (fun hv => ?_)
          ·rw [hm2] at hv; cases hv
          ·conv => whnf
           repeat' (first|((refine PickE.map i hx (by omega) ?_);conv=>whnf)|((refine PickR.map k hrw (by omega) ?_);conv=>whnf)|((with_reducible refine Split.of_false ?_);conv=>whnf)|(with_reducible refine Split.neg ?_)|((with_reducible refine Split.dec (fun _=>?_) (fun _=>?_))<;>conv=>whnf)|((with_reducible refine Need.mk ?_ ?_);(first|omega|rfl|decide|(refine ⟨?_,?_⟩<;>simp<;>omega)|(simp;omega));conv=>whnf)|((with_reducible refine Wr.inr ?_ ?_);(first|omega|(simp;omega));conv=>whnf)|(exfalso;first|omega|contradiction)|fail)
           all_goals first
            |(exfalso; omega)
            | skip
           refine Again.av (k + 1, .own) ⟨by dsimp only; omega, rfl, by dsimp only [qN]; rw [hst2]; (first | omega | (simp only [List.length_append, List.length_singleton]; omega))⟩ (by dsimp only; omega) ?_
           dsimp only [qV, qB]
           rw [hst2]
           exact (by refine ⟨?_, ?_, rfl⟩<;>(repeat' (first|exact True.intro|exact rfl|(refine ⟨?_,?_⟩)|(intro h;cases h;done)|(simp;done)|fail));done)
       ·have hke : k = l.length := by omega
        subst hke
        have hmp5 : mapD (u.ps ++ [(i, (b : Int))]) = mapD (V l.length).ps := by rw [hVp]
        subst hof
        dsimp only [qV, qB]
        dsimp only [qN] at hon
        conv => whnf
        repeat' (first|((with_reducible refine Split.dec (fun _=>?_) (fun _=>?_))<;>conv=>whnf)|((with_reducible refine Need.mk ?_ ?_);(first|omega|rfl|decide|(refine ⟨?_,?_⟩<;>simp<;>omega)|(simp;omega));conv=>whnf)|((with_reducible refine Wr.inr ?_ ?_);(first|omega|(simp;omega));conv=>whnf)|(exfalso;first|omega|contradiction)|fail)
        refine Again.av (i + 1, .own) ⟨by dsimp only; omega, rfl, by dsimp only [qN]; rw [hst]; (first | omega | (simp only [List.length_append, List.length_singleton]; omega))⟩ (by dsimp only; omega) ?_
        dsimp only [qV, qB]
        rw [hst]
        exact (by refine ⟨?_, ?_, rfl⟩<;>(repeat' (first|exact True.intro|exact rfl|(refine ⟨?_,?_⟩)|(intro h;cases h;done)|(simp;done)|exact hmp5|fail));done)
   ·have hie : i = y.pits.length := by omega
    subst hie
    clear hzs
    obtain ⟨t, htq, -, htl⟩ := hZq y.pits.length
    have htq' : (Z y.pits.length).q = b :: (r ++ t) := by rw [htq, hbr]; rfl
    have hrt : ∀ z ∈ r ++ t, z < l.length := fun z hz => by
     rcases List.mem_append.1 hz with h | h
     ·exact hqb z (by rw [hbr]; exact List.mem_cons_of_mem _ h)
     ·exact htl z h
    generalize Z y.pits.length = u at *
    have hlu : (u.q.map nD).length = (r ++ t).length + 1 := by rw [htq']; simp
    have hlu2 : ∀ pr : List Nat, ((pr ++ u.q).map nD).length = pr.length + ((r ++ t).length + 1) := fun pr => by rw [htq']; simp
    have hlu3 : u.q.length = (r ++ t).length + 1 := by rw [htq']; simp
    have hrl : (r ++ t).length = r.length + t.length := List.length_append
    have hut : u.q.tail = r ++ t := by rw [htq']; rfl
    subst hof
    dsimp only [qV, qB]
    dsimp only [qN] at hon
    conv => whnf
    repeat' (first|((with_reducible refine Split.dec (fun _=>?_) (fun _=>?_))<;>conv=>whnf)|((with_reducible refine Need.mk ?_ ?_);(first|omega|rfl|decide|(refine ⟨?_,?_⟩<;>simp<;>omega)|(simp;omega));conv=>whnf)|(exfalso;first|omega|contradiction)|fail)
    by_cases hrt0 : r ++ t = []
    ·have hl0 : (r ++ t).length = 0 := by rw [hrt0]; rfl
     have hmp6 : AV.d (D.sl 1 (List.drop (Int.toNat 1) (List.take ((u.q.map nD).length : Int).toNat (u.q.map nD)))) = AV.d (D.sl 1 []) := by rw [htq', hrt0]; rfl
     refine AltK.l ?_
     conv => whnf
     repeat' (first|((with_reducible refine Need.mk ?_ ?_);(first|omega|rfl|decide|(refine ⟨?_,?_⟩<;>simp<;>omega)|(simp;omega));conv=>whnf)|fail)
     refine Again.av (n, ⟨u.bs, u.ps, u.q.tail⟩, .fin u.q) ⟨hgo, by dsimp only [qN]; omega, by dsimp only; rw [hut]; exact hrt, by dsimp only; rw [hut]; intro e _; exact hrt0, fun p hp => by cases hp⟩ (by dsimp only; omega) ?_
     dsimp only [qV, qB]
     exact (by refine ⟨?_, ?_, rfl⟩<;>(repeat' (first|exact True.intro|exact rfl|(refine ⟨?_,?_⟩)|(intro h;cases h;done)|(intro h;exact h)|(simp;done)|exact hmp6|fail));done)
    ·have hl0 := List.length_pos_iff.2 hrt0
     have hmp6 : u.q.map nD = ([b] ++ (r ++ t)).map nD := by rw [htq']; rfl
     refine AltK.r ?_
     conv => whnf
     refine AltK.l ?_
     conv => whnf
     repeat' (first|((with_reducible refine Need.mk ?_ ?_);(first|omega|rfl|decide|(refine ⟨?_,?_⟩<;>simp<;>omega)|(simp;omega));conv=>whnf)|fail)
     refine Again.av (n, ⟨u.bs, u.ps, u.q.tail⟩, .view [b]) ⟨hgo, by dsimp only [qN]; rw [hut]; (first | omega | (simp only [List.length_append, List.length_singleton]; omega)), by dsimp only; rw [hut]; exact hrt, fun e he => (by cases he), by dsimp only; rw [hut]; intro e _; exact hrt0⟩ (by dsimp only; omega) ?_
     dsimp only [qV, qB]
     rw [hut]
     exact (by refine ⟨?_, ?_, rfl⟩<;>(repeat' (first|exact True.intro|exact rfl|(refine ⟨?_,?_⟩)|(intro h;cases h;done)|(simp;done)|(refine view_congr ?_ ?_<;>(first|omega|(simp;done)|(simp;omega)))|exact hmp6|fail));done)
  ·dsimp only [qV, qB]
   dsimp only [qN] at hqn
   conv => whnf
   repeat' (first|((refine PickE.map pre.length (h1 pre) (by omega) ?_);conv=>whnf)|((with_reducible refine Split.dec (fun _=>?_) (fun _=>?_))<;>conv=>whnf)|((with_reducible refine Need.mk ?_ ?_);(first|omega|rfl|decide|(refine ⟨?_,?_⟩<;>simp<;>omega)|(simp;omega));conv=>whnf)|(exfalso;first|omega|contradiction)|fail)
   refine LoopK.o3 (fun x : Nat × Qs => x.1 ≤ y.pits.length ∧ (∀ e, x.2 ≠ .fin e) ∧ qN (Z x.1).q x.2 + 100 * (n + 1) ≤ 200000 + 12 * x.1)
    (fun x => [(4, qV (Z x.1).q x.2), (50, .d (iD x.1)), (36, .junk), (41, .junk), (42, .junk)]) (fun x => qB (Z x.1).q x.2 ++ [(13, .map 3 3 (.int .i64) (mapD (Z x.1).bs)), (14, .map 3 3 (.int .i64) (mapD (Z x.1).ps))])
    (fun x => y.pits.length - x.1) (0, .view pre) ⟨by omega, fun e => by simp, by dsimp only [qN];rw [hZ0];omega⟩ (by dsimp only [qV, qB];rw [hZ0];exact (by refine ⟨?_, ?_, rfl⟩<;>(repeat' (first|exact True.intro|exact rfl|(refine ⟨?_,?_⟩)|(intro h;cases h;done)|(simp;done)|fail));done)) ?_
   rintro ⟨i, o⟩ ⟨hi, hof, hon⟩
   dsimp only at hi hof hon ⊢
   have hzs := hZs i
   by_cases hil : i < y.pits.length
   ·generalize hu : Z i = u at *
    have hm := mget_mapD i u.ps
    have hac0 := hAc i b hil hbL
    cases hk : hasN u.ps i with
    | true =>
     rw [hk, if_pos rfl] at hm
     have hst : Z (i + 1) = u := by rw [hzs, stP, if_pos hk]
     rcases o with _ | pr1 | e
     rotate_left 2
     ·exact absurd rfl (hof e)
     ·dsimp only [qV, qB]
      dsimp only [qN] at hon
      conv => whnf
      repeat' (first|((with_reducible refine Split.dec (fun _=>?_) (fun _=>?_))<;>conv=>whnf)|((with_reducible refine AltK.l ?_);(conv=>whnf);(with_reducible refine Need.mk ?_ ?_);(first|omega|(refine ⟨?_,?_⟩<;>simp<;>omega)|(simp;omega));conv=>whnf)|((with_reducible refine Need.mk ?_ ?_);(first|omega|rfl|decide|(refine ⟨?_,?_⟩<;>simp<;>omega)|(simp;omega));conv=>whnf)|(exfalso;first|omega|contradiction)|fail)
      refine LookK.mk (fun v hv => ?_) (fun hv => ?_)
      ·conv => whnf
       repeat' (first|((with_reducible refine Split.of_true ?_);conv=>whnf)|((with_reducible refine Wr.inr ?_ ?_);(first|omega|(simp;omega));conv=>whnf)|fail)
       refine Again.av (i + 1, .own) ⟨by dsimp only; omega, fun e => by simp, by dsimp only [qN]; rw [hst]; (first | omega | (simp only [List.length_append, List.length_singleton]; omega))⟩ (by dsimp only; omega) ?_
       dsimp only [qV, qB]
       rw [hst]
       exact (by refine ⟨?_, ?_, rfl⟩<;>(repeat' (first|exact True.intro|exact rfl|(refine ⟨?_,?_⟩)|(intro h;cases h;done)|(simp;done)|fail));done)
      ·rw [hm] at hv; cases hv
     ·dsimp only [qV, qB]
      dsimp only [qN] at hon
      conv => whnf
      repeat' (first|((with_reducible refine Split.dec (fun _=>?_) (fun _=>?_))<;>conv=>whnf)|((with_reducible refine AltK.l ?_);(conv=>whnf);(with_reducible refine Need.mk ?_ ?_);(first|omega|(refine ⟨?_,?_⟩<;>simp<;>omega)|(simp;omega));conv=>whnf)|((with_reducible refine Need.mk ?_ ?_);(first|omega|rfl|decide|(refine ⟨?_,?_⟩<;>simp<;>omega)|(simp;omega));conv=>whnf)|(exfalso;first|omega|contradiction)|fail)
      refine LookK.mk (fun v hv => ?_) (fun hv => ?_)
      ·conv => whnf
       repeat' (first|((with_reducible refine Split.of_true ?_);conv=>whnf)|((with_reducible refine Wr.inr ?_ ?_);(first|omega|(simp;omega));conv=>whnf)|fail)
       refine Again.av (i + 1, .view pr1) ⟨by dsimp only; omega, fun e => by simp, by dsimp only [qN]; rw [hst]; (first | omega | (simp only [List.length_append, List.length_singleton]; omega))⟩ (by dsimp only; omega) ?_
       dsimp only [qV, qB]
       rw [hst]
       exact (by refine ⟨?_, ?_, rfl⟩<;>(repeat' (first|exact True.intro|exact rfl|(refine ⟨?_,?_⟩)|(intro h;cases h;done)|(simp;done)|fail));done)
      ·rw [hm] at hv; cases hv
    | false =>
     rw [hk, if_neg (by decide)] at hm
     cases hac : accF y l i b with
     | false =>
      have hst : Z (i + 1) = u := by rw [hzs, stP, if_neg (by rw [hk]; decide), if_pos hac]
      rw [hac] at hac0
      rcases o with _ | pr1 | e
      rotate_left 2
      ·exact absurd rfl (hof e)
      ·dsimp only [qV, qB]
       dsimp only [qN] at hon
       conv => whnf
       repeat' (first|((with_reducible refine Split.dec (fun _=>?_) (fun _=>?_))<;>conv=>whnf)|((with_reducible refine AltK.l ?_);(conv=>whnf);(with_reducible refine Need.mk ?_ ?_);(first|omega|(refine ⟨?_,?_⟩<;>simp<;>omega)|(simp;omega));conv=>whnf)|((with_reducible refine Need.mk ?_ ?_);(first|omega|rfl|decide|(refine ⟨?_,?_⟩<;>simp<;>omega)|(simp;omega));conv=>whnf)|(exfalso;first|omega|contradiction)|fail)
       refine LookK.mk (fun v hv => ?_) (fun hv => ?_)
       ·rw [hm] at hv; cases hv
       ·conv => whnf
        repeat' (first|((with_reducible refine Split.of_false ?_);conv=>whnf)|(with_reducible refine Split.neg ?_)|((with_reducible refine Wr.inr ?_ ?_);(first|omega|(simp;omega));conv=>whnf)|((with_reducible refine AltK.r ?_);(conv=>whnf);(first|(refine CallX.mk _ _ (hac0) rfl ?_));conv=>whnf)|fail)
        refine Again.av (i + 1, .own) ⟨by dsimp only; omega, fun e => by simp, by dsimp only [qN]; rw [hst]; (first | omega | (simp only [List.length_append, List.length_singleton]; omega))⟩ (by dsimp only; omega) ?_
        dsimp only [qV, qB]
        rw [hst]
        exact (by refine ⟨?_, ?_, rfl⟩<;>(repeat' (first|exact True.intro|exact rfl|(refine ⟨?_,?_⟩)|(intro h;cases h;done)|(simp;done)|fail));done)
      ·dsimp only [qV, qB]
       dsimp only [qN] at hon
       conv => whnf
       repeat' (first|((with_reducible refine Split.dec (fun _=>?_) (fun _=>?_))<;>conv=>whnf)|((with_reducible refine AltK.l ?_);(conv=>whnf);(with_reducible refine Need.mk ?_ ?_);(first|omega|(refine ⟨?_,?_⟩<;>simp<;>omega)|(simp;omega));conv=>whnf)|((with_reducible refine Need.mk ?_ ?_);(first|omega|rfl|decide|(refine ⟨?_,?_⟩<;>simp<;>omega)|(simp;omega));conv=>whnf)|(exfalso;first|omega|contradiction)|fail)
       refine LookK.mk (fun v hv => ?_) (fun hv => ?_)
       ·rw [hm] at hv; cases hv
       ·conv => whnf
        repeat' (first|((with_reducible refine Split.of_false ?_);conv=>whnf)|(with_reducible refine Split.neg ?_)|((with_reducible refine Wr.inr ?_ ?_);(first|omega|(simp;omega));conv=>whnf)|((with_reducible refine AltK.r ?_);(conv=>whnf);(first|(refine CallX.mk _ _ (hac0) rfl ?_));conv=>whnf)|fail)
        refine Again.av (i + 1, .view pr1) ⟨by dsimp only; omega, fun e => by simp, by dsimp only [qN]; rw [hst]; (first | omega | (simp only [List.length_append, List.length_singleton]; omega))⟩ (by dsimp only; omega) ?_
        dsimp only [qV, qB]
        rw [hst]
        exact (by refine ⟨?_, ?_, rfl⟩<;>(repeat' (first|exact True.intro|exact rfl|(refine ⟨?_,?_⟩)|(intro h;cases h;done)|(simp;done)|fail));done)
     | true =>
      obtain ⟨V, hV⟩ : ∃ V : Nat → Rs, ∀ k, V k = (List.range k).foldl (stO fl i) ⟨u.bs, u.ps ++ [(i, (b : Int))], u.q⟩ := ⟨_, fun _ => rfl⟩
      have hst : Z (i + 1) = V l.length := by rw [hzs, stP, if_neg (by rw [hk]; decide), if_neg (by rw [hac]; decide), hV]
      have hV0 : V 0 = ⟨u.bs, u.ps ++ [(i, (b : Int))], u.q⟩ := hV 0
      have hVs : ∀ k, V (k + 1) = stO fl i (V k) k := fun k => by rw [hV, range_snoc, ← hV]
      have hVp : (V l.length).ps = u.ps ++ [(i, (b : Int))] := by rw [hV]; exact (stO_q (L := l.length) l.length (Nat.le_refl _)).2
      clear hV
      rw [hac] at hac0
      have hmp1 : mput (mapD u.ps) (iD (i : Int)) (nD b) = mapD (u.ps ++ [(i, (b : Int))]) := mput_mapD hk
      rcases o with _ | pr1 | e
      rotate_left 2
      ·exact absurd rfl (hof e)
      ·dsimp only [qV, qB]
       dsimp only [qN] at hon
       conv => whnf
       repeat' (first|((with_reducible refine Split.dec (fun _=>?_) (fun _=>?_))<;>conv=>whnf)|((with_reducible refine AltK.l ?_);(conv=>whnf);(with_reducible refine Need.mk ?_ ?_);(first|omega|(refine ⟨?_,?_⟩<;>simp<;>omega)|(simp;omega));conv=>whnf)|((with_reducible refine Need.mk ?_ ?_);(first|omega|rfl|decide|(refine ⟨?_,?_⟩<;>simp<;>omega)|(simp;omega));conv=>whnf)|(exfalso;first|omega|contradiction)|fail)
       refine LookK.mk (fun v hv => ?_) (fun hv => ?_)
       ·rw [hm] at hv; cases hv
       ·conv => whnf
        repeat' (first|((with_reducible first|refine Split.of_true ?_|refine Split.of_false ?_);conv=>whnf)|(with_reducible refine Split.neg ?_)|((with_reducible refine Need.mk ?_ ?_);(first|omega|rfl|decide|(refine ⟨?_,?_⟩<;>simp<;>omega)|(simp;omega));conv=>whnf)|((with_reducible refine AltK.r ?_);(conv=>whnf);(first|(refine CallX.mk _ _ (hac0) rfl ?_));conv=>whnf)|fail)
        refine LoopK.o3 (fun x : Nat × Qs => x.1 ≤ l.length ∧ (x.2 = .own) ∧ qN (V x.1).q x.2 + 100 * (n + 1) ≤ 200000 + 12 * i + x.1)
         (fun x => [(4, qV (V x.1).q x.2), (77, .d (iD x.1)), (36, .junk), (41, .junk), (42, .junk)]) (fun x => qB (V x.1).q x.2 ++ [(13, .map 3 3 (.int .i64) (mapD (V x.1).bs)), (14, .map 3 3 (.int .i64) (mapD (u.ps ++ [(i, (b : Int))])))])
         (fun x => l.length - x.1) (0, .own) ⟨by omega, rfl, by dsimp only [qN];rw [hV0];dsimp only;omega⟩ (by dsimp only [qV, qB];rw [hV0];exact (by refine ⟨?_, ?_, rfl⟩<;>(repeat' (first|exact True.intro|exact rfl|(refine ⟨?_,?_⟩)|(intro h;cases h;done)|(simp;done)|exact hmp1|fail));done)) ?_
        clear hon
        rintro ⟨k, o⟩ ⟨hk', hof, hon⟩
        dsimp only at hk' hof hon ⊢
        have hvs := hVs k
        by_cases hkl : k < l.length
        ·generalize hv' : V k = v at *
         have hm2 := mget_mapD k v.bs
         have hlv : (v.q.map nD).length = v.q.length := List.length_map _
         have hlv2 : ∀ pr : List Nat, ((pr ++ v.q).map nD).length = pr.length + v.q.length := fun pr => by simp
         cases hkb : hasN v.bs k with
         | true =>
          rw [hkb, if_pos rfl] at hm2
          have hst2 : V (k + 1) = v := by rw [hvs, stO, if_pos hkb]
          subst hof
          dsimp only [qV, qB]
          dsimp only [qN] at hon
          conv => whnf
          repeat' (first|((with_reducible refine Split.dec (fun _=>?_) (fun _=>?_))<;>conv=>whnf)|((with_reducible refine Need.mk ?_ ?_);(first|omega|rfl|decide|(refine ⟨?_,?_⟩<;>simp<;>omega)|(simp;omega));conv=>whnf)|((with_reducible refine Wr.inr ?_ ?_);(first|omega|(simp;omega));conv=>whnf)|(exfalso;first|omega|contradiction)|fail)
          refine LookK.mk (fun v hv => ?_) (fun hv => ?_)
          ·conv => whnf
           repeat' (first|((with_reducible first|refine Split.of_true ?_|refine Split.of_false ?_);conv=>whnf)|(with_reducible refine Split.neg ?_)|((with_reducible refine Wr.inr ?_ ?_);(first|omega|(simp;omega));conv=>whnf)|fail)
           refine Again.av (k + 1, .own) ⟨by dsimp only; omega, rfl, by dsimp only [qN]; rw [hst2]; (first | omega | (simp only [List.length_append, List.length_singleton]; omega))⟩ (by dsimp only; omega) ?_
           dsimp only [qV, qB]
           rw [hst2]
           exact (by refine ⟨?_, ?_, rfl⟩<;>(repeat' (first|exact True.intro|exact rfl|(refine ⟨?_,?_⟩)|(intro h;cases h;done)|(simp;done)|fail));done)
          ·rw [hm2] at hv; cases hv
         | false =>
          rw [hkb, if_neg (by decide)] at hm2
          obtain ⟨rw', hrw⟩ := some_of_lt (show k < fl.length by omega)
          have hrwm := List.mem_of_getElem? hrw
          have hrwl := h.row rw' hrwm
          obtain ⟨x, hx⟩ := some_of_lt (show i < rw'.length by omega)
          have hcx : cellZ fl k i = x := by simp [cellZ, List.getD, hrw, hx]
          have hlr : (rw'.map iD).length = rw'.length := List.length_map _
          have hmp2 : mput (mapD v.bs) (iD (k : Int)) (iD (i : Int)) = mapD (v.bs ++ [(k, (i : Int))]) := mput_mapD hkb
          by_cases hx0 : 0 < x
          ·have hst2 : V (k + 1) = ⟨v.bs ++ [(k, (i : Int))], v.ps, v.q ++ [k]⟩ := by rw [hvs, stO, if_neg (by rw [hkb]; decide), if_pos (by rw [hcx]; exact hx0)]
           subst hof
           dsimp only [qV, qB]
           dsimp only [qN] at hon
           conv => whnf
           repeat' (first|((with_reducible refine Split.dec (fun _=>?_) (fun _=>?_))<;>conv=>whnf)|((with_reducible refine Need.mk ?_ ?_);(first|omega|rfl|decide|(refine ⟨?_,?_⟩<;>simp<;>omega)|(simp;omega));conv=>whnf)|((with_reducible refine Wr.inr ?_ ?_);(first|omega|(simp;omega));conv=>whnf)|(exfalso;first|omega|contradiction)|fail)
           refine LookK.mk (fun v hv => ?_) (fun hv => ?_)
           ·rw [hm2] at hv; cases hv
           ·conv => whnf
            repeat' (first|((refine PickE.map i hx (by omega) ?_);conv=>whnf)|((refine PickR.map k hrw (by omega) ?_);conv=>whnf)|((with_reducible refine Split.of_false ?_);conv=>whnf)|(with_reducible refine Split.neg ?_)|((with_reducible refine Split.dec (fun _=>?_) (fun _=>?_))<;>conv=>whnf)|((with_reducible refine Need.mk ?_ ?_);(first|omega|rfl|decide|(refine ⟨?_,?_⟩<;>simp<;>omega)|(simp;omega));conv=>whnf)|((with_reducible refine Wr.inr ?_ ?_);(first|omega|(simp;omega));conv=>whnf)|(exfalso;first|omega|contradiction)|fail)
            all_goals first
             |(exfalso; omega)
             | skip
            refine Again.av (k + 1, .own) ⟨by dsimp only; omega, rfl, by dsimp only [qN]; rw [hst2]; (first | omega | (simp only [List.length_append, List.length_singleton]; omega))⟩ (by dsimp only; omega) ?_
            dsimp only [qV, qB]
            rw [hst2]
            exact (by refine ⟨?_, ?_, rfl⟩<;>(repeat' (first|exact True.intro|exact rfl|(refine ⟨?_,?_⟩)|(intro h;cases h;done)|exact map_snoc|(refine own_congr ?_;simp;done)|(simp;done)|exact hmp2|fail));done)
          ·have hst2 : V (k + 1) = v := by rw [hvs, stO, if_neg (by rw [hkb]; decide), if_neg (by rw [hcx]; exact hx0)]
           subst hof
           dsimp only [qV, qB]
           dsimp only [qN] at hon
           conv => whnf
           repeat' (first|((with_reducible refine Split.dec (fun _=>?_) (fun _=>?_))<;>conv=>whnf)|((with_reducible refine Need.mk ?_ ?_);(first|omega|rfl|decide|(refine ⟨?_,?_⟩<;>simp<;>omega)|(simp;omega));conv=>whnf)|((with_reducible refine Wr.inr ?_ ?_);(first|omega|(simp;omega));conv=>whnf)|(exfalso;first|omega|contradiction)|fail)
           refine LookK.mk (fun v hv => ?_) (fun hv => ?_)
           ·rw [hm2] at hv; cases hv
           ·conv => whnf
            repeat' (first|((refine PickE.map i hx (by omega) ?_);conv=>whnf)|((refine PickR.map k hrw (by omega) ?_);conv=>whnf)|((with_reducible refine Split.of_false ?_);conv=>whnf)|(with_reducible refine Split.neg ?_)|((with_reducible refine Split.dec (fun _=>?_) (fun _=>?_))<;>conv=>whnf)|((with_reducible refine Need.mk ?_ ?_);(first|omega|rfl|decide|(refine ⟨?_,?_⟩<;>simp<;>omega)|(simp;omega));conv=>whnf)|((with_reducible refine Wr.inr ?_ ?_);(first|omega|(simp;omega));conv=>whnf)|(exfalso;first|omega|contradiction)|fail)
            all_goals first
             |(exfalso; omega)
             | skip
            refine Again.av (k + 1, .own) ⟨by dsimp only; omega, rfl, by dsimp only [qN]; rw [hst2]; (first | omega | (simp only [List.length_append, List.length_singleton]; omega))⟩ (by dsimp only; omega) ?_
            dsimp only [qV, qB]
            rw [hst2]
            exact (by refine ⟨?_, ?_, rfl⟩<;>(repeat' (first|exact True.intro|exact rfl|(refine ⟨?_,?_⟩)|(intro h;cases h;done)|(simp;done)|fail));done)
        ·have hke : k = l.length := by omega
         subst hke
         have hmp5 : mapD (u.ps ++ [(i, (b : Int))]) = mapD (V l.length).ps := by rw [hVp]
         subst hof
         dsimp only [qV, qB]
         dsimp only [qN] at hon
         conv => whnf
         repeat' (first|((with_reducible refine Split.dec (fun _=>?_) (fun _=>?_))<;>conv=>whnf)|((with_reducible refine Need.mk ?_ ?_);(first|omega|rfl|decide|(refine ⟨?_,?_⟩<;>simp<;>omega)|(simp;omega));conv=>whnf)|((with_reducible refine Wr.inr ?_ ?_);(first|omega|(simp;omega));conv=>whnf)|(exfalso;first|omega|contradiction)|fail)
         refine Again.av (i + 1, .own) ⟨by dsimp only; omega, fun e => by simp, by dsimp only [qN]; rw [hst]; (first | omega | (simp only [List.length_append, List.length_singleton]; omega))⟩ (by dsimp only; omega) ?_
         dsimp only [qV, qB]
         rw [hst]
         exact (by refine ⟨?_, ?_, rfl⟩<;>(repeat' (first|exact True.intro|exact rfl|(refine ⟨?_,?_⟩)|(intro h;cases h;done)|(simp;done)|exact hmp5|fail));done)
      ·dsimp only [qV, qB]
       dsimp only [qN] at hon
       conv => whnf
       repeat' (first|((with_reducible refine Split.dec (fun _=>?_) (fun _=>?_))<;>conv=>whnf)|((with_reducible refine AltK.l ?_);(conv=>whnf);(with_reducible refine Need.mk ?_ ?_);(first|omega|(refine ⟨?_,?_⟩<;>simp<;>omega)|(simp;omega));conv=>whnf)|((with_reducible refine Need.mk ?_ ?_);(first|omega|rfl|decide|(refine ⟨?_,?_⟩<;>simp<;>omega)|(simp;omega));conv=>whnf)|(exfalso;first|omega|contradiction)|fail)
       refine LookK.mk (fun v hv => ?_) (fun hv => ?_)
       ·rw [hm] at hv; cases hv
       ·conv => whnf
        repeat' (first|((with_reducible first|refine Split.of_true ?_|refine Split.of_false ?_);conv=>whnf)|(with_reducible refine Split.neg ?_)|((with_reducible refine Need.mk ?_ ?_);(first|omega|rfl|decide|(refine ⟨?_,?_⟩<;>simp<;>omega)|(simp;omega));conv=>whnf)|((with_reducible refine AltK.r ?_);(conv=>whnf);(first|(refine CallX.mk _ _ (hac0) rfl ?_));conv=>whnf)|fail)
        refine LoopK.o3 (fun x : Nat × Qs => x.1 ≤ l.length ∧ (∀ e, x.2 ≠ .fin e) ∧ qN (V x.1).q x.2 + 100 * (n + 1) ≤ 200000 + 12 * i + x.1)
         (fun x => [(4, qV (V x.1).q x.2), (77, .d (iD x.1)), (36, .junk), (41, .junk), (42, .junk)]) (fun x => qB (V x.1).q x.2 ++ [(13, .map 3 3 (.int .i64) (mapD (V x.1).bs)), (14, .map 3 3 (.int .i64) (mapD (u.ps ++ [(i, (b : Int))])))])
         (fun x => l.length - x.1) (0, .view pr1) ⟨by omega, fun e => by simp, by dsimp only [qN];rw [hV0];dsimp only;omega⟩ (by dsimp only [qV, qB];rw [hV0];exact (by refine ⟨?_, ?_, rfl⟩<;>(repeat' (first|exact True.intro|exact rfl|(refine ⟨?_,?_⟩)|(intro h;cases h;done)|(simp;done)|exact hmp1|fail));done)) ?_
        clear hon
        rintro ⟨k, o⟩ ⟨hk', hof, hon⟩
        dsimp only at hk' hof hon ⊢
        have hvs := hVs k
        by_cases hkl : k < l.length
        ·generalize hv' : V k = v at *
         have hm2 := mget_mapD k v.bs
         have hlv : (v.q.map nD).length = v.q.length := List.length_map _
         have hlv2 : ∀ pr : List Nat, ((pr ++ v.q).map nD).length = pr.length + v.q.length := fun pr => by simp
         cases hkb : hasN v.bs k with
         | true =>
          rw [hkb, if_pos rfl] at hm2
          have hst2 : V (k + 1) = v := by rw [hvs, stO, if_pos hkb]
          rcases o with _ | pr2 | e
          rotate_left 2
          ·exact absurd rfl (hof e)
          ·dsimp only [qV, qB]
           dsimp only [qN] at hon
           conv => whnf
           repeat' (first|((with_reducible refine Split.dec (fun _=>?_) (fun _=>?_))<;>conv=>whnf)|((with_reducible refine Need.mk ?_ ?_);(first|omega|rfl|decide|(refine ⟨?_,?_⟩<;>simp<;>omega)|(simp;omega));conv=>whnf)|((with_reducible refine Wr.inr ?_ ?_);(first|omega|(simp;omega));conv=>whnf)|(exfalso;first|omega|contradiction)|fail)
           refine LookK.mk (fun v hv => ?_) (fun hv => ?_)
           ·conv => whnf
            repeat' (first|((with_reducible first|refine Split.of_true ?_|refine Split.of_false ?_);conv=>whnf)|(with_reducible refine Split.neg ?_)|((with_reducible refine Wr.inr ?_ ?_);(first|omega|(simp;omega));conv=>whnf)|fail)
            refine Again.av (k + 1, .own) ⟨by dsimp only; omega, fun e => by simp, by dsimp only [qN]; rw [hst2]; (first | omega | (simp only [List.length_append, List.length_singleton]; omega))⟩ (by dsimp only; omega) ?_
            dsimp only [qV, qB]
            rw [hst2]
            exact (by refine ⟨?_, ?_, rfl⟩<;>(repeat' (first|exact True.intro|exact rfl|(refine ⟨?_,?_⟩)|(intro h;cases h;done)|(simp;done)|fail));done)
           ·rw [hm2] at hv; cases hv
          ·dsimp only [qV, qB]
           dsimp only [qN] at hon
           conv => whnf
           repeat' (first|((with_reducible refine Split.dec (fun _=>?_) (fun _=>?_))<;>conv=>whnf)|((with_reducible refine Need.mk ?_ ?_);(first|omega|rfl|decide|(refine ⟨?_,?_⟩<;>simp<;>omega)|(simp;omega));conv=>whnf)|((with_reducible refine Wr.inr ?_ ?_);(first|omega|(simp;omega));conv=>whnf)|(exfalso;first|omega|contradiction)|fail)
           refine LookK.mk (fun v hv => ?_) (fun hv => ?_)
           ·conv => whnf
            repeat' (first|((with_reducible first|refine Split.of_true ?_|refine Split.of_false ?_);conv=>whnf)|(with_reducible refine Split.neg ?_)|((with_reducible refine Wr.inr ?_ ?_);(first|omega|(simp;omega));conv=>whnf)|fail)
            refine Again.av (k + 1, .view pr2) ⟨by dsimp only; omega, fun e => by simp, by dsimp only [qN]; rw [hst2]; (first | omega | (simp only [List.length_append, List.length_singleton]; omega))⟩ (by dsimp only; omega) ?_
            dsimp only [qV, qB]
            rw [hst2]
            exact (by refine ⟨?_, ?_, rfl⟩<;>(repeat' (first|exact True.intro|exact rfl|(refine ⟨?_,?_⟩)|(intro h;cases h;done)|(simp;done)|fail));done)
           ·rw [hm2] at hv; cases hv
         | false =>
          rw [hkb, if_neg (by decide)] at hm2
          obtain ⟨rw', hrw⟩ := some_of_lt (show k < fl.length by omega)
          have hrwm := List.mem_of_getElem? hrw
          have hrwl := h.row rw' hrwm
          obtain ⟨x, hx⟩ := some_of_lt (show i < rw'.length by omega)
          have hcx : cellZ fl k i = x := by simp [cellZ, List.getD, hrw, hx]
          have hlr : (rw'.map iD).length = rw'.length := List.length_map _
          have hmp2 : mput (mapD v.bs) (iD (k : Int)) (iD (i : Int)) = mapD (v.bs ++ [(k, (i : Int))]) := mput_mapD hkb
          by_cases hx0 : 0 < x
          ·have hst2 : V (k + 1) = ⟨v.bs ++ [(k, (i : Int))], v.ps, v.q ++ [k]⟩ := by rw [hvs, stO, if_neg (by rw [hkb]; decide), if_pos (by rw [hcx]; exact hx0)]
           rcases o with _ | pr2 | e
           rotate_left 2
           ·exact absurd rfl (hof e)
           ·dsimp only [qV, qB]
            dsimp only [qN] at hon
            conv => whnf
            repeat' (first|((with_reducible refine Split.dec (fun _=>?_) (fun _=>?_))<;>conv=>whnf)|((with_reducible refine Need.mk ?_ ?_);(first|omega|rfl|decide|(refine ⟨?_,?_⟩<;>simp<;>omega)|(simp;omega));conv=>whnf)|((with_reducible refine Wr.inr ?_ ?_);(first|omega|(simp;omega));conv=>whnf)|(exfalso;first|omega|contradiction)|fail)
            refine LookK.mk (fun v hv => ?_) (fun hv => ?_)
            ·rw [hm2] at hv; cases hv
            ·conv => whnf
             repeat' (first|((refine PickE.map i hx (by omega) ?_);conv=>whnf)|((refine PickR.map k hrw (by omega) ?_);conv=>whnf)|((with_reducible refine Split.of_false ?_);conv=>whnf)|(with_reducible refine Split.neg ?_)|((with_reducible refine Split.dec (fun _=>?_) (fun _=>?_))<;>conv=>whnf)|((with_reducible refine Need.mk ?_ ?_);(first|omega|rfl|decide|(refine ⟨?_,?_⟩<;>simp<;>omega)|(simp;omega));conv=>whnf)|((with_reducible refine Wr.inr ?_ ?_);(first|omega|(simp;omega));conv=>whnf)|(exfalso;first|omega|contradiction)|fail)
             all_goals first
              |(exfalso; omega)
              | skip
             refine Again.av (k + 1, .own) ⟨by dsimp only; omega, fun e => by simp, by dsimp only [qN]; rw [hst2]; (first | omega | (simp only [List.length_append, List.length_singleton]; omega))⟩ (by dsimp only; omega) ?_
             dsimp only [qV, qB]
             rw [hst2]
             exact (by refine ⟨?_, ?_, rfl⟩<;>(repeat' (first|exact True.intro|exact rfl|(refine ⟨?_,?_⟩)|(intro h;cases h;done)|exact map_snoc|(refine own_congr ?_;simp;done)|(simp;done)|exact hmp2|fail));done)
           ·dsimp only [qV, qB]
            dsimp only [qN] at hon
            conv => whnf
            repeat' (first|((with_reducible refine Split.dec (fun _=>?_) (fun _=>?_))<;>conv=>whnf)|((with_reducible refine Need.mk ?_ ?_);(first|omega|rfl|decide|(refine ⟨?_,?_⟩<;>simp<;>omega)|(simp;omega));conv=>whnf)|((with_reducible refine Wr.inr ?_ ?_);(first|omega|(simp;omega));conv=>whnf)|(exfalso;first|omega|contradiction)|fail)
            refine LookK.mk (fun v hv => ?_) (fun hv => ?_)
            ·rw [hm2] at hv; cases hv
            ·have hmp3 : ((pr2 ++ v.q).map nD).drop pr2.length ++ iD (k : Int) :: List.replicate 0 (D.int .i64 0) = (v.q ++ [k]).map nD := by simp [nD]
             have hmp4 : (pr2 ++ v.q).map nD ++ iD (k : Int) :: List.replicate 0 (D.int .i64 0) = (pr2 ++ (v.q ++ [k])).map nD := by simp [nD]
             conv => whnf
             repeat' (first|((refine PickE.map i hx (by omega) ?_);conv=>whnf)|((refine PickR.map k hrw (by omega) ?_);conv=>whnf)|((with_reducible refine Split.of_false ?_);conv=>whnf)|(with_reducible refine Split.neg ?_)|((with_reducible refine Split.dec (fun _=>?_) (fun _=>?_))<;>conv=>whnf)|((with_reducible refine NilK.mk (fun _=>?_) ?_)<;>conv=>whnf)|((with_reducible refine Need.mk ?_ ?_);(first|omega|rfl|decide|(refine ⟨?_,?_⟩<;>simp<;>omega)|(simp;omega));conv=>whnf)|((with_reducible refine Wr.inr ?_ ?_);(first|omega|(simp;omega));conv=>whnf)|(exfalso;first|omega|contradiction)|fail)
             ·refine Again.av (k + 1, .view pr2) ⟨by dsimp only; omega, fun e => by simp, by dsimp only [qN]; rw [hst2]; (first | omega | (simp only [List.length_append, List.length_singleton]; omega))⟩ (by dsimp only; omega) ?_
              dsimp only [qV, qB]
              rw [hst2]
              exact (by refine ⟨?_, ?_, rfl⟩<;>(repeat' (first|exact True.intro|exact rfl|(refine ⟨?_,?_⟩)|(intro h;cases h;done)|(simp;done)|(refine view_congr ?_ ?_<;>(first|omega|(simp;done)|(simp;omega)))|exact hmp2|exact hmp4|fail));done)
             ·refine Again.av (k + 1, .own) ⟨by dsimp only; omega, fun e => by simp, by dsimp only [qN]; rw [hst2]; (first | omega | (simp only [List.length_append, List.length_singleton]; omega))⟩ (by dsimp only; omega) ?_
              dsimp only [qV, qB]
              rw [hst2]
              exact (by refine ⟨?_, ?_, rfl⟩<;>(repeat' (first|exact True.intro|exact rfl|(refine ⟨?_,?_⟩)|(intro h;cases h;done)|(refine own_congr ?_;simp;done)|(simp;done)|exact hmp2|exact hmp3|fail));done)
          ·have hst2 : V (k + 1) = v := by rw [hvs, stO, if_neg (by rw [hkb]; decide), if_neg (by rw [hcx]; exact hx0)]
           rcases o with _ | pr2 | e
           rotate_left 2
           ·exact absurd rfl (hof e)
           ·dsimp only [qV, qB]
            dsimp only [qN] at hon
            conv => whnf
            repeat' (first|((with_reducible refine Split.dec (fun _=>?_) (fun _=>?_))<;>conv=>whnf)|((with_reducible refine Need.mk ?_ ?_);(first|omega|rfl|decide|(refine ⟨?_,?_⟩<;>simp<;>omega)|(simp;omega));conv=>whnf)|((with_reducible refine Wr.inr ?_ ?_);(first|omega|(simp;omega));conv=>whnf)|(exfalso;first|omega|contradiction)|fail)
            refine LookK.mk (fun v hv => ?_) (fun hv => ?_)
            ·rw [hm2] at hv; cases hv
            ·conv => whnf
             repeat' (first|((refine PickE.map i hx (by omega) ?_);conv=>whnf)|((refine PickR.map k hrw (by omega) ?_);conv=>whnf)|((with_reducible refine Split.of_false ?_);conv=>whnf)|(with_reducible refine Split.neg ?_)|((with_reducible refine Split.dec (fun _=>?_) (fun _=>?_))<;>conv=>whnf)|((with_reducible refine Need.mk ?_ ?_);(first|omega|rfl|decide|(refine ⟨?_,?_⟩<;>simp<;>omega)|(simp;omega));conv=>whnf)|((with_reducible refine Wr.inr ?_ ?_);(first|omega|(simp;omega));conv=>whnf)|(exfalso;first|omega|contradiction)|fail)
             all_goals first
              |(exfalso; omega)
              | skip
             refine Again.av (k + 1, .own) ⟨by dsimp only; omega, fun e => by simp, by dsimp only [qN]; rw [hst2]; (first | omega | (simp only [List.length_append, List.length_singleton]; omega))⟩ (by dsimp only; omega) ?_
             dsimp only [qV, qB]
             rw [hst2]
             exact (by refine ⟨?_, ?_, rfl⟩<;>(repeat' (first|exact True.intro|exact rfl|(refine ⟨?_,?_⟩)|(intro h;cases h;done)|(simp;done)|fail));done)
           ·dsimp only [qV, qB]
            dsimp only [qN] at hon
            conv => whnf
            repeat' (first|((with_reducible refine Split.dec (fun _=>?_) (fun _=>?_))<;>conv=>whnf)|((with_reducible refine Need.mk ?_ ?_);(first|omega|rfl|decide|(refine ⟨?_,?_⟩<;>simp<;>omega)|(simp;omega));conv=>whnf)|((with_reducible refine Wr.inr ?_ ?_);(first|omega|(simp;omega));conv=>whnf)|(exfalso;first|omega|contradiction)|fail)
            refine LookK.mk (fun v hv => ?_) (fun hv => ?_)
            ·rw [hm2] at hv; cases hv
            ·conv => whnf
             repeat' (first|((refine PickE.map i hx (by omega) ?_);conv=>whnf)|((refine PickR.map k hrw (by omega) ?_);conv=>whnf)|((with_reducible refine Split.of_false ?_);conv=>whnf)|(with_reducible refine Split.neg ?_)|((with_reducible refine Split.dec (fun _=>?_) (fun _=>?_))<;>conv=>whnf)|((with_reducible refine NilK.mk (fun _=>?_) ?_)<;>conv=>whnf)|((with_reducible refine Need.mk ?_ ?_);(first|omega|rfl|decide|(refine ⟨?_,?_⟩<;>simp<;>omega)|(simp;omega));conv=>whnf)|((with_reducible refine Wr.inr ?_ ?_);(first|omega|(simp;omega));conv=>whnf)|(exfalso;first|omega|contradiction)|fail)
             all_goals first
              |(exfalso; omega)
              | skip
             refine Again.av (k + 1, .view pr2) ⟨by dsimp only; omega, fun e => by simp, by dsimp only [qN]; rw [hst2]; (first | omega | (simp only [List.length_append, List.length_singleton]; omega))⟩ (by dsimp only; omega) ?_
             dsimp only [qV, qB]
             rw [hst2]
             exact (by refine ⟨?_, ?_, rfl⟩<;>(repeat' (first|exact True.intro|exact rfl|(refine ⟨?_,?_⟩)|(intro h;cases h;done)|(simp;done)|fail));done)
        ·have hke : k = l.length := by omega
         subst hke
         have hmp5 : mapD (u.ps ++ [(i, (b : Int))]) = mapD (V l.length).ps := by rw [hVp]
         rcases o with _ | pr2 | e
         rotate_left 2
         ·exact absurd rfl (hof e)
         ·dsimp only [qV, qB]
          dsimp only [qN] at hon
          conv => whnf
          repeat' (first|((with_reducible refine Split.dec (fun _=>?_) (fun _=>?_))<;>conv=>whnf)|((with_reducible refine Need.mk ?_ ?_);(first|omega|rfl|decide|(refine ⟨?_,?_⟩<;>simp<;>omega)|(simp;omega));conv=>whnf)|((with_reducible refine Wr.inr ?_ ?_);(first|omega|(simp;omega));conv=>whnf)|(exfalso;first|omega|contradiction)|fail)
          refine Again.av (i + 1, .own) ⟨by dsimp only; omega, fun e => by simp, by dsimp only [qN]; rw [hst]; (first | omega | (simp only [List.length_append, List.length_singleton]; omega))⟩ (by dsimp only; omega) ?_
          dsimp only [qV, qB]
          rw [hst]
          exact (by refine ⟨?_, ?_, rfl⟩<;>(repeat' (first|exact True.intro|exact rfl|(refine ⟨?_,?_⟩)|(intro h;cases h;done)|(simp;done)|exact hmp5|fail));done)
         ·dsimp only [qV, qB]
          dsimp only [qN] at hon
          conv => whnf
          repeat' (first|((with_reducible refine Split.dec (fun _=>?_) (fun _=>?_))<;>conv=>whnf)|((with_reducible refine Need.mk ?_ ?_);(first|omega|rfl|decide|(refine ⟨?_,?_⟩<;>simp<;>omega)|(simp;omega));conv=>whnf)|((with_reducible refine Wr.inr ?_ ?_);(first|omega|(simp;omega));conv=>whnf)|(exfalso;first|omega|contradiction)|fail)
          refine Again.av (i + 1, .view pr2) ⟨by dsimp only; omega, fun e => by simp, by dsimp only [qN]; rw [hst]; (first | omega | (simp only [List.length_append, List.length_singleton]; omega))⟩ (by dsimp only; omega) ?_
          dsimp only [qV, qB]
          rw [hst]
          exact (by refine ⟨?_, ?_, rfl⟩<;>(repeat' (first|exact True.intro|exact rfl|(refine ⟨?_,?_⟩)|(intro h;cases h;done)|(simp;done)|exact hmp5|fail));done)
   ·have hie : i = y.pits.length := by omega
    subst hie
    clear hzs
    obtain ⟨t, htq, -, htl⟩ := hZq y.pits.length
    have htq' : (Z y.pits.length).q = b :: (r ++ t) := by rw [htq, hbr]; rfl
    have hrt : ∀ z ∈ r ++ t, z < l.length := fun z hz => by
     rcases List.mem_append.1 hz with h | h
     ·exact hqb z (by rw [hbr]; exact List.mem_cons_of_mem _ h)
     ·exact htl z h
    generalize Z y.pits.length = u at *
    have hlu : (u.q.map nD).length = (r ++ t).length + 1 := by rw [htq']; simp
    have hlu2 : ∀ pr : List Nat, ((pr ++ u.q).map nD).length = pr.length + ((r ++ t).length + 1) := fun pr => by rw [htq']; simp
    have hlu3 : u.q.length = (r ++ t).length + 1 := by rw [htq']; simp
    have hrl : (r ++ t).length = r.length + t.length := List.length_append
    have hut : u.q.tail = r ++ t := by rw [htq']; rfl
    rcases o with _ | pr1 | e
    rotate_left 2
    ·exact absurd rfl (hof e)
    ·dsimp only [qV, qB]
     dsimp only [qN] at hon
     conv => whnf
     repeat' (first|((with_reducible refine Split.dec (fun _=>?_) (fun _=>?_))<;>conv=>whnf)|((with_reducible refine Need.mk ?_ ?_);(first|omega|rfl|decide|(refine ⟨?_,?_⟩<;>simp<;>omega)|(simp;omega));conv=>whnf)|(exfalso;first|omega|contradiction)|fail)
     by_cases hrt0 : r ++ t = []
     ·have hl0 : (r ++ t).length = 0 := by rw [hrt0]; rfl
      have hmp6 : AV.d (D.sl 1 (List.drop (Int.toNat 1) (List.take ((u.q.map nD).length : Int).toNat (u.q.map nD)))) = AV.d (D.sl 1 []) := by rw [htq', hrt0]; rfl
      refine AltK.l ?_
      conv => whnf
      repeat' (first|((with_reducible refine Need.mk ?_ ?_);(first|omega|rfl|decide|(refine ⟨?_,?_⟩<;>simp<;>omega)|(simp;omega));conv=>whnf)|fail)
      refine Again.av (n, ⟨u.bs, u.ps, u.q.tail⟩, .fin u.q) ⟨hgo, by dsimp only [qN]; omega, by dsimp only; rw [hut]; exact hrt, by dsimp only; rw [hut]; intro e _; exact hrt0, fun p hp => by cases hp⟩ (by dsimp only; omega) ?_
      dsimp only [qV, qB]
      exact (by refine ⟨?_, ?_, rfl⟩<;>(repeat' (first|exact True.intro|exact rfl|(refine ⟨?_,?_⟩)|(intro h;cases h;done)|(intro h;exact h)|(simp;done)|exact hmp6|fail));done)
     ·have hl0 := List.length_pos_iff.2 hrt0
      have hmp6 : u.q.map nD = ([b] ++ (r ++ t)).map nD := by rw [htq']; rfl
      refine AltK.r ?_
      conv => whnf
      refine AltK.l ?_
      conv => whnf
      repeat' (first|((with_reducible refine Need.mk ?_ ?_);(first|omega|rfl|decide|(refine ⟨?_,?_⟩<;>simp<;>omega)|(simp;omega));conv=>whnf)|fail)
      refine Again.av (n, ⟨u.bs, u.ps, u.q.tail⟩, .view [b]) ⟨hgo, by dsimp only [qN]; rw [hut]; (first | omega | (simp only [List.length_append, List.length_singleton]; omega)), by dsimp only; rw [hut]; exact hrt, fun e he => (by cases he), by dsimp only; rw [hut]; intro e _; exact hrt0⟩ (by dsimp only; omega) ?_
      dsimp only [qV, qB]
      rw [hut]
      exact (by refine ⟨?_, ?_, rfl⟩<;>(repeat' (first|exact True.intro|exact rfl|(refine ⟨?_,?_⟩)|(intro h;cases h;done)|(simp;done)|(refine view_congr ?_ ?_<;>(first|omega|(simp;done)|(simp;omega)))|exact hmp6|fail));done)
    ·dsimp only [qV, qB]
     dsimp only [qN] at hon
     conv => whnf
     repeat' (first|((with_reducible refine Split.dec (fun _=>?_) (fun _=>?_))<;>conv=>whnf)|((with_reducible refine Need.mk ?_ ?_);(first|omega|rfl|decide|(refine ⟨?_,?_⟩<;>simp<;>omega)|(simp;omega));conv=>whnf)|(exfalso;first|omega|contradiction)|fail)
     by_cases hrt0 : r ++ t = []
     ·have hl0 : (r ++ t).length = 0 := by rw [hrt0]; rfl
      refine AltK.r ?_
      conv => whnf
      repeat' (first|((with_reducible refine Need.mk ?_ ?_);(first|omega|rfl|decide|(refine ⟨?_,?_⟩<;>simp<;>omega)|(simp;omega));conv=>whnf)|fail)
      refine Again.av (n, ⟨u.bs, u.ps, u.q.tail⟩, .fin (pr1 ++ u.q)) ⟨hgo, by dsimp only [qN]; omega, by dsimp only; rw [hut]; exact hrt, by dsimp only; rw [hut]; intro e _; exact hrt0, fun p hp => by cases hp⟩ (by dsimp only; omega) ?_
      dsimp only [qV, qB]
      exact (by refine ⟨?_, ?_, rfl⟩<;>(repeat' (first|exact True.intro|exact rfl|(refine ⟨?_,?_⟩)|(intro h;cases h;done)|(simp;done)|fail));done)
     ·have hl0 := List.length_pos_iff.2 hrt0
      have hmp6 : (pr1 ++ u.q).map nD = ((pr1 ++ [b]) ++ (r ++ t)).map nD := by rw [htq', List.append_assoc]; rfl
      refine AltK.l ?_
      conv => whnf
      repeat' (first|((with_reducible refine Need.mk ?_ ?_);(first|omega|rfl|decide|(refine ⟨?_,?_⟩<;>simp<;>omega)|(simp;omega));conv=>whnf)|fail)
      refine Again.av (n, ⟨u.bs, u.ps, u.q.tail⟩, .view (pr1 ++ [b])) ⟨hgo, by dsimp only [qN]; rw [hut]; (first | omega | (simp only [List.length_append, List.length_singleton]; omega)), by dsimp only; rw [hut]; exact hrt, fun e he => (by cases he), by dsimp only; rw [hut]; intro e _; exact hrt0⟩ (by dsimp only; omega) ?_
      dsimp only [qV, qB]
      rw [hut]
      exact (by refine ⟨?_, ?_, rfl⟩<;>(repeat' (first|exact True.intro|exact rfl|(refine ⟨?_,?_⟩)|(intro h;cases h;done)|(simp;done)|(refine view_congr ?_ ?_<;>(first|omega|(simp;done)|(simp;omega)))|exact hmp6|fail));done)
end Go.Proofs.Try
end
