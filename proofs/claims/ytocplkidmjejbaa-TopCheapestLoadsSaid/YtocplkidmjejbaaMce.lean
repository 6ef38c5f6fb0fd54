/- Texts DrJ DtA, joined; what is not needed is left out. -/
import Derived.Test.YtocplkidmjejbaaMgI
import Derived.Test.YtocplkidmjejbaaProg
import Derived.Test.YtocplkidmjejbaaMgH
import Derived.Test.YtocplkidmjejbaaMcd
section
namespace Go.Proofs.Try
open Go Go.Vm
set_option maxRecDepth 20000
/-! Cheapest, for every yard and list. -/
structure Solved (y : Yd) (l : List Bt) (fl : List (List Int)) (t : Tf) : Prop where
 ok : FlOk (accF y l) y.pits.length l.length (volF y l) (roomF y) fl
 shut : ∀ p, p < y.pits.length → Shut (accF y l) y.pits.length l.length (volF y l) (roomF y) fl p
 ti : TfI (accF y l) y.pits.length l.length (roomF y) (priceF y) fl t
 bb : ∀ x ∈ t.bs, 0 ≤ x ∧ x ≤ 10000
 pb : ∀ x ∈ t.ps, 0 ≤ x ∧ x ≤ 10000
 tf : ∀ b, b < l.length → ∀ p, p < y.pits.length → TF (accF y l) (priceF y) fl t b p
theorem ev_CheapestRun {y : Yd} {l : List Bt} (hs : smallP y) (h0 : lstE y l = 0) : ∃ fl k t, fillsF (accF y l) y.pits.length l.length 20 k (volF y l) (roomF y) (ordF y) (flow0 y l) = some fl ∧ Solved y l fl t ∧
 Ev Try.prog 13 [ydD y, .sl 5 (l.map btD)] (.tup [frD (if doneF l.length (volF y l) fl = true then ⟨allF y l fl l.length, costF y (allF y l fl l.length), t⟩ else fr0), iD (if doneF l.length (volF y l) fl = true then 0 else 19)]) := by
 have hO := ls_ok h0
 obtain ⟨fl, k, h1, h2, h3, m, t, t1, t2, t3, t4, t5⟩ := cheap_run hO
 refine ⟨fl, k, t, h1, ⟨h2, h3, t2, t3, t4, t5⟩, ?_⟩
 cases hd : doneF l.length (volF y l) fl with
 | false =>
  rw [if_neg (by decide), if_neg (by decide)]
  exact ev_CheapestFull hs h0 (by decide) h1 hd
 | true =>
  rw [if_pos rfl, if_pos rfl]
  exact ev_CheapestOk hs h0 (by decide) h1 hd t1 (all_ok hO h2) (cost_bd hO h2)
end Go.Proofs.Try
end

section
namespace Go.Proofs.Try
open Go Go.Vm
set_option maxRecDepth 20000
/-! Yards whose pits have other tops or prices: plain law. -/
structure Sim (y z : Yd) : Prop where
 len : z.pits.length = y.pits.length
 pit : ∀ (i : Nat) p q, y.pits[i]? = some p → z.pits[i]? = some q → q.name = p.name ∧ q.cls = p.cls
 bulk : z.bulk = y.bulk
 deps : z.deps = y.deps
 carry : z.carry = y.carry
section
variable {y z : Yd} {l : List Bt}
theorem Sim.fac (h : Sim y z) (s : ByteArray) : facI z s = facI y s := by rw [facI, facI, h.bulk]
theorem Sim.bat (h : Sim y z) (b : Bt) : batErr z b = batErr y b := by rw [batErr, batErr, h.fac]
theorem Sim.ls_eq (h : Sim y z) (q : Int → Bool) : ∀ (r o : List Bt), lsGo z q o r = lsGo y q o r
 | [], _ => rfl
 | b :: r, o => by rw [lsGo, lsGo, h.bat, h.ls_eq q r]
theorem Sim.lst (h : Sim y z) (hy : ydErr y = 0) (hz : ydErr z = 0) : lstE z l = lstE y l := by
 have e : depB z = depB y := funext fun n => by rw [depB, depB, h.deps]
 rw [lstE, lstE, lsErr, lsErr, hy, hz, h.ls_eq, e]
theorem Sim.vols (h : Sim y z) : ∀ (r : List Bt) (c : List Int), volsGo z c r = volsGo y c r
 | [], _ => rfl
 | b :: r, c => by
  have e : ∀ k, bkAt z k = bkAt y k := fun k => by rw [bkAt, bkAt, h.bulk]
  rw [volsGo, volsGo, h.fac, e, h.vols r]
theorem Sim.vol (h : Sim y z) : volF z l = volF y l := by rw [volF, volF, h.carry, h.vols]
theorem Sim.acc (h : Sim y z) : accF z l = accF y l := by
 funext p b
 unfold accF
 cases h1 : y.pits[p]? with
 | none =>
  have : z.pits[p]? = none := by
   rw [List.getElem?_eq_none_iff] at h1 ⊢; have := h.len; omega
  rw [this]
 | some q =>
  obtain ⟨r, hr⟩ := some_of_lt (show p < z.pits.length by have := lt_of_some h1; have := h.len; omega)
  rw [hr]
  have e := (h.pit p q r h1 hr).2
  cases l[b]? with
  | none => rfl
  | some x => simp only [accB, e]
theorem Sim.flow (h : Sim y z) {fl : List (List Int)} (hf : FlOk (accF z l) z.pits.length l.length (volF z l) (roomF z) fl) (hr : ∀ p, p < y.pits.length → (roomF z).getD p 0 ≤ (roomF y).getD p 0) :
 FlOk (accF y l) y.pits.length l.length (volF y l) (roomF y) fl := by
 rw [h.acc, h.vol, h.len] at hf
 refine ⟨hf.dim, hf.nn, hf.ac, hf.lf, fun p hp => ?_⟩
 have h1 := hf.fr p hp
 rw [free_sum hf.dim] at h1 ⊢
 have := hr p hp
 omega
end
/-! A pit that is filled less high. -/
section
variable {y : Yd} {l : List Bt} {c d : Nat → Int}
end
end Go.Proofs.Try
end
