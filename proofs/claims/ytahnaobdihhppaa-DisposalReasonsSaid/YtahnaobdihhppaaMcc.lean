/- Texts DpH DpI DpJ DpT DpU DpV, joined; what is not needed is left out. -/
import Derived.Test.YtahnaobdihhppaaMgI
import Derived.Test.YtahnaobdihhppaaMgH
import Derived.Test.YtahnaobdihhppaaProg
import Derived.Test.YtahnaobdihhppaaMcb
section
namespace Go.Proofs.Try
open Go Go.Vm
set_option maxRecDepth 20000
set_option maxHeartbeats 4000000
/-! Disposal: Bulked; refusals. -/
theorem carGo_zero : ∀ {bs : List Bk} {cs : List Int}, carGo bs cs = 0 → ∀ (i : Nat) b c, bs[i]? = some b → cs[i]? = some c → 0 ≤ c ∧ c ≤ b.den - 1
  | [], _, _, i, b, c, hb, _ => by simp at hb
  | _ :: _, [], _, i, b, c, _, hc => by simp at hc
  | x :: bs, z :: cs, h, i, b, c, hb, hc => by
    rw [carGo] at h
    split at h
    · cases h
    rename_i h1
    cases i with
    | zero =>
      simp at hb hc
      subst hb
      subst hc
      simp [outsideB] at h1
      omega
    | succ i => exact carGo_zero h i b c (by simpa using hb) (by simpa using hc)
structure YdOk (y : Yd) : Prop where
  pits : y.pits.length ≤ 8
  pit : ∀ p ∈ y.pits, PtOk p ∧ nameB p.name = true
  bulk : y.bulk.length ≤ 20
  bk : ∀ f ∈ y.bulk, BkOk f
  carL : y.carry.length = y.bulk.length
  car : ∀ (i : Nat) b c, y.bulk[i]? = some b → y.carry[i]? = some c → 0 ≤ c ∧ c ≤ b.den - 1
  deps : y.deps.length ≤ 200
  vol : volOk y.deps
  room : ∀ p ∈ y.pits, 0 ≤ roomS y p
theorem yd_ok {y : Yd} (h : ydErr y = 0) : YdOk y := by
  unfold ydErr at h
  split at h
  · cases h
  split at h
  · contradiction
  rename_i h1
  split at h
  · cases h
  split at h
  · contradiction
  rename_i h2
  split at h
  · cases h
  rename_i h3
  split at h
  · contradiction
  rename_i h4
  have z1 := nmGo_zero (show nmGo Pt.name ptErr [] y.pits = 0 by simpa using h1)
  have z2 := nmGo_zero (show nmGo Bk.soil bkErr [] y.bulk = 0 by simpa using h2)
  unfold dpsErr at h
  split at h
  · cases h
  split at h
  · contradiction
  rename_i h5
  split at h
  · cases h
  rename_i h6
  refine ⟨by omega, fun p hp => ⟨pt_ok (z1 p hp).1, (z1 p hp).2⟩, by omega, fun f hf => bk_ok (z2 f hf).1, by simpa using h3, carGo_zero (by simpa using h4), by omega, dpGo_vol (by simpa using h5), fun p hp => ?_⟩
  have h6 : y.pits.any (fun p => decide (roomS y p < 0)) = false := by simpa using h6
  have := List.any_eq_false.1 h6 p hp
  simp at this; omega
/-- A valid yard and batch: the factor, the remainder. -/
structure Wok (y : Yd) (b : Bt) (k : Nat) (f : Bk) (c : Int) : Prop where
  yok : YdOk y
  bok : BtOk b
  clk : 0 ≤ b.cls ∧ b.cls ≤ 9
  ixk : facI y b.soil = k
  fat : y.bulk[k]? = some f
  cat : y.carry[k]? = some c
  fo : BkOk f
  co : 0 ≤ c ∧ c ≤ f.den - 1
theorem with_ok {y : Yd} {b : Bt} (h : withErr y b = 0) : ∃ k f c, Wok y b k f c := by
  unfold withErr at h
  split at h
  · contradiction
  rename_i h0
  have hy := yd_ok (show ydErr y = 0 by simpa using h0)
  unfold batErr at h
  split at h
  · cases h
  rename_i h1
  split at h
  · cases h
  rename_i h2
  split at h
  · cases h
  rename_i h3
  simp [outsideB] at h1 h3
  obtain ⟨k, f, hk, hf, -⟩ := ix_at h2
  obtain ⟨c, hc⟩ := some_of_lt (show k < y.carry.length by rw [hy.carL]; exact lt_of_some hf)
  exact ⟨k, f, c, hy, ⟨by omega, by omega, by omega⟩, by omega, hk, hf, hc, hy.bk f (List.mem_of_getElem? hf), hy.car k f c hf hc⟩
def volN (b : Bt) (f : Bk) (c : Int) : Int := ((b.bed - b.over) * f.num + c) / f.den
def carN (b : Bt) (f : Bk) (c : Int) : Int := ((b.bed - b.over) * f.num + c) % f.den
theorem volN_bd {y : Yd} {b : Bt} {k : Nat} {f : Bk} {c : Int} (h : Wok y b k f c) : 0 ≤ volN b f c ∧ volN b f c ≤ 10000000000001000 ∧ 0 ≤ carN b f c ∧ carN b f c ≤ f.den - 1 := by
  have h1 := h.fo.den
  have h2 := h.co
  obtain ⟨m1, m2⟩ := bulkN_bd h.bok h.fo (c := c) (by omega)
  unfold volN carN
  have d1 := Int.ediv_nonneg (a := (b.bed - b.over) * f.num + c) (b := f.den) (by omega) (by omega)
  have d2 := Int.ediv_le_self (a := (b.bed - b.over) * f.num + c) f.den (by omega)
  have d3 := Int.emod_nonneg ((b.bed - b.over) * f.num + c) (show f.den ≠ 0 by omega)
  have d4 := Int.emod_lt_of_pos ((b.bed - b.over) * f.num + c) (show 0 < f.den by omega)
  omega
theorem ev_DBulkedOk {y : Yd} {b : Bt} {k : Nat} {f : Bk} {c : Int} (hs : smallP y) (h0 : withErr y b = 0) (h : Wok y b k f c) : Ev Try.prog 13 [ydD y, btD b] (.tup [iD (volN b f c), iD (carN b f c), iD 0]) := by
  have h1 := ev_CheckBatch y b hs
  rw [h0] at h1
  have hlc := h.yok.carL
  have hbl := h.yok.bulk
  have hd := h.fo.den
  have hco := h.co
  have hkl := lt_of_some h.cat
  have hX := EvX.new1 (xs := [.sl 1 (y.carry.map iD)]) (xv_clonedI y.carry (by omega)) 17
  have hB := (xv_bulked y b y.carry h.yok.bulk h.ixk h.fat h.cat h.bok h.fo (by omega)).rn [(1000, 17)] rfl
  have hF := ev_factorOf y b.soil (by omega)
  rw [h.ixk] at hF
  have hsl : ((y.carry.set k (((b.bed - b.over) * f.num + c) % f.den)).map iD).length = y.carry.length := by rw [List.length_map, List.length_set]
  have hset : (y.carry.set k (((b.bed - b.over) * f.num + c) % f.den))[k]? = some (((b.bed - b.over) * f.num + c) % f.den) := by rw [List.getElem?_set_self hkl]
  unfold volN carN
  refine ev_of_awp tysOk mixed (fn := Try.f13) Try.func13 rfl rfl rfl ?_
  conv => whnf
  repeat' (first|((refine PickE.map k hset (by omega) ?_);conv=>whnf)|((with_reducible refine Split.of_true ?_);conv=>whnf)|((with_reducible refine Split.of_false ?_);conv=>whnf)|((with_reducible refine Split.neg ?_))|((with_reducible refine Split.is_true ?_ ?_);decide;conv=>whnf)|((with_reducible refine Split.is_false ?_ ?_);decide;conv=>whnf)|((with_reducible refine Split.nez (fun _=>?_) (fun _=>?_))<;>conv=>whnf)|((with_reducible refine Split.eqz (fun _=>?_) (fun _=>?_))<;>conv=>whnf)|((with_reducible refine Split.dec (fun _=>?_) (fun _=>?_))<;>conv=>whnf)|((with_reducible refine Need.mk ?_ ?_);(first|omega|rfl|decide|(refine ⟨?_, ?_⟩<;>simp<;>omega)|(simp;omega));conv=>whnf)|((with_reducible refine Wr.quo ?_ ?_ ?_ ?_);omega;omega;omega;conv=>whnf)|((with_reducible refine Wr.inr ?_ ?_);(first|omega|(simp;omega));conv=>whnf)|((with_reducible refine AltK.r ?_);(conv=>whnf);(first|(refine CallX.mk _ _ (hX) rfl ?_)|(refine CallX.mk _ _ (hB) rfl ?_));conv=>whnf)|((with_reducible refine AltK.l ?_);(conv=>whnf);(first|(refine CallK.mk _ (h1) ?_)|(refine CallK.mk _ (hF) ?_));conv=>whnf)|(exfalso;first|omega|contradiction))
  rfl
def accB (p : Pt) (cls : Int) : Bool := p.cls.any fun c => c == cls
def refS (y : Yd) (p : Pt) (cls v : Int) : Int := if accB p cls = false then 20 else if roomS y p < v then 19 else 0
theorem ev_IndexInt (l : List Int) (x : Int) (hn : l.length ≤ 1000000) : Ev Try.prog 125 [.sl 1 (l.map iD), iD x] (iD (ixI (fun c => c == x) l)) := by
  have hlen : (l.map iD).length = l.length := List.length_map _
  refine ev_of_awp tysOk mixed (fn := Try.f125) Try.func125 rfl rfl rfl ?_
  conv => whnf
  repeat' (first|((with_reducible refine Split.of_true ?_);conv=>whnf)|((with_reducible refine Split.of_false ?_);conv=>whnf)|((with_reducible refine Split.neg ?_))|((with_reducible refine Split.is_true ?_ ?_);decide;conv=>whnf)|((with_reducible refine Split.is_false ?_ ?_);decide;conv=>whnf)|((with_reducible refine Split.nez (fun _=>?_) (fun _=>?_))<;>conv=>whnf)|((with_reducible refine Split.eqz (fun _=>?_) (fun _=>?_))<;>conv=>whnf)|((with_reducible refine Split.dec (fun _=>?_) (fun _=>?_))<;>conv=>whnf)|((with_reducible refine Need.mk ?_ ?_);(first|omega|rfl|decide|(refine ⟨?_, ?_⟩<;>simp<;>omega)|(simp;omega));conv=>whnf)|((with_reducible refine Wr.quo ?_ ?_ ?_ ?_);omega;omega;omega;conv=>whnf)|((with_reducible refine Wr.inr ?_ ?_);(first|omega|(simp;omega));conv=>whnf)|(exfalso;first|omega|contradiction))
  refine LoopK.o2 (fun i : Nat => i ≤ l.length ∧ ∀ g ∈ l.take i, (g == x) = false) (fun i => [(8, .d (.int .i64 i))]) (fun _ => []) (fun i => l.length - i) 0 (by simp) (by refine ⟨?_, ?_, rfl⟩<;>(repeat' (first|exact True.intro|exact rfl|refine ⟨?_, ?_⟩|(intro h;cases h;done)|(intro h;exact h)|exact map_snoc|(refine own_congr ?_;simp;done)|(refine int_congr ?_;(first|omega|(simp;omega)))|(simp;done)));done) ?_
  rintro i ⟨hi, hp⟩
  by_cases hil : i < l.length
  · obtain ⟨g, hg⟩ := some_of_lt hil
    conv => whnf
    repeat' (first|((refine PickE.map i hg (by omega) ?_);conv=>whnf)|((with_reducible refine Split.of_true ?_);conv=>whnf)|((with_reducible refine Split.of_false ?_);conv=>whnf)|((with_reducible refine Split.neg ?_))|((with_reducible refine Split.is_true ?_ ?_);decide;conv=>whnf)|((with_reducible refine Split.is_false ?_ ?_);decide;conv=>whnf)|((with_reducible refine Split.nez (fun _=>?_) (fun _=>?_))<;>conv=>whnf)|((with_reducible refine Split.eqz (fun _=>?_) (fun _=>?_))<;>conv=>whnf)|((with_reducible refine Split.dec (fun _=>?_) (fun _=>?_))<;>conv=>whnf)|((with_reducible refine Need.mk ?_ ?_);(first|omega|rfl|decide|(refine ⟨?_, ?_⟩<;>simp<;>omega)|(simp;omega));conv=>whnf)|((with_reducible refine Wr.quo ?_ ?_ ?_ ?_);omega;omega;omega;conv=>whnf)|((with_reducible refine Wr.inr ?_ ?_);(first|omega|(simp;omega));conv=>whnf)|(exfalso;first|omega|contradiction))
    · have e : l.findIdx? (fun c => c == x) = some i := by
        rw [List.findIdx?_eq_some_iff_getElem]
        refine ⟨by omega, by rw [(List.getElem?_eq_some_iff.1 hg).2]; simp; omega, fun j hj => ?_⟩
        have := hp l[j] (List.mem_take_iff_getElem.2 ⟨j, by omega, rfl⟩)
        rw [this]; decide
      rw [ixI, e]; rfl
    · refine Again.au (i + 1) ⟨by omega, fun z hz => ?_⟩ (by omega) (by refine ⟨?_, ?_, rfl⟩<;>(repeat' (first|exact True.intro|exact rfl|refine ⟨?_, ?_⟩|(intro h;cases h;done)|(intro h;exact h)|exact map_snoc|(refine own_congr ?_;simp;done)|(refine int_congr ?_;(first|omega|(simp;omega)))|(simp;done)));done)
      rw [take_snoc hg] at hz
      rcases List.mem_append.1 hz with hz | hz
      · exact hp z hz
      · rw [List.mem_singleton.1 hz]; simp; omega
  · have e : l.findIdx? (fun c => c == x) = none := by
      rw [List.findIdx?_eq_none_iff]
      intro z hz
      rw [← List.take_of_length_le (show l.length ≤ i by omega)] at hz
      exact hp z hz
    rw [ixI, e]
    conv => whnf
    repeat' (first|((with_reducible refine Split.of_true ?_);conv=>whnf)|((with_reducible refine Split.of_false ?_);conv=>whnf)|((with_reducible refine Split.neg ?_))|((with_reducible refine Split.is_true ?_ ?_);decide;conv=>whnf)|((with_reducible refine Split.is_false ?_ ?_);decide;conv=>whnf)|((with_reducible refine Split.nez (fun _=>?_) (fun _=>?_))<;>conv=>whnf)|((with_reducible refine Split.eqz (fun _=>?_) (fun _=>?_))<;>conv=>whnf)|((with_reducible refine Split.dec (fun _=>?_) (fun _=>?_))<;>conv=>whnf)|((with_reducible refine Need.mk ?_ ?_);(first|omega|rfl|decide|(refine ⟨?_, ?_⟩<;>simp<;>omega)|(simp;omega));conv=>whnf)|((with_reducible refine Wr.quo ?_ ?_ ?_ ?_);omega;omega;omega;conv=>whnf)|((with_reducible refine Wr.inr ?_ ?_);(first|omega|(simp;omega));conv=>whnf)|(exfalso;first|omega|contradiction))
    rfl
theorem any_ix {α : Type} {p : α → Bool} {l : List α} : l.any p = decide (¬ ixI p l < 0) := by
  rw [Bool.eq_iff_iff, decide_eq_true_eq]
  constructor
  · intro h hlt
    obtain ⟨x, hx, hp⟩ := List.any_eq_true.1 h
    unfold ixI at hlt
    cases hf : l.findIdx? p with
    | none => rw [List.findIdx?_eq_none_iff.1 hf x hx] at hp; cases hp
    | some i => rw [hf] at hlt; simp at hlt; omega
  · intro h
    obtain ⟨i, r, -, hr, hs⟩ := ix_at h
    exact List.any_eq_true.2 ⟨r, List.mem_of_getElem? hr, hs⟩
theorem ev_ContainsInt (l : List Int) (x : Int) (hn : l.length ≤ 1000000) : Ev Try.prog 108 [.sl 1 (l.map iD), iD x] (.bool (l.any fun c => c == x)) := by
  have h := ev_IndexInt l x hn
  rw [any_ix]
  generalize ixI (fun c => c == x) l = i at *
  refine ev_of_awp tysOk mixed (fn := Try.f108) Try.func108 rfl rfl rfl ?_
  conv => whnf
  repeat' (first|((with_reducible refine Split.of_true ?_);conv=>whnf)|((with_reducible refine Split.of_false ?_);conv=>whnf)|((with_reducible refine Split.neg ?_))|((with_reducible refine Split.is_true ?_ ?_);decide;conv=>whnf)|((with_reducible refine Split.is_false ?_ ?_);decide;conv=>whnf)|((with_reducible refine Split.nez (fun _=>?_) (fun _=>?_))<;>conv=>whnf)|((with_reducible refine Split.eqz (fun _=>?_) (fun _=>?_))<;>conv=>whnf)|((with_reducible refine Split.dec (fun _=>?_) (fun _=>?_))<;>conv=>whnf)|((with_reducible refine Need.mk ?_ ?_);(first|omega|rfl|decide|(refine ⟨?_, ?_⟩<;>simp<;>omega)|(simp;omega));conv=>whnf)|((with_reducible refine Wr.quo ?_ ?_ ?_ ?_);omega;omega;omega;conv=>whnf)|((with_reducible refine Wr.inr ?_ ?_);(first|omega|(simp;omega));conv=>whnf)|((with_reducible refine AltK.l ?_);(conv=>whnf);(first|(refine CallK.mk _ (h) ?_));conv=>whnf)|(exfalso;first|omega|contradiction))
  simp only [retOf, D.bool.injEq, decide_eq_decide]; omega
theorem ev_refusal (y : Yd) {p : Pt} (cls v : Int) (hp : PtOk p) (hv : volOk y.deps) (hn : y.deps.length ≤ 300) (hc : p.cls.length ≤ 1000000) : Ev Try.prog 62 [ydD y, ptD p, iD cls, iD v] (iD (refS y p cls v)) := by
  have h1 := ev_ContainsInt p.cls cls hc
  have h2 := ev_room y hp hv hn
  unfold refS accB
  generalize p.cls.any (fun c => c == cls) = a at *
  generalize roomS y p = r at *
  cases a with
  | false =>
    rw [if_pos rfl]
    refine ev_of_awp tysOk mixed (fn := Try.f62) Try.func62 rfl rfl rfl ?_
    conv => whnf
    repeat' (first|((with_reducible refine Split.of_true ?_);conv=>whnf)|((with_reducible refine Split.of_false ?_);conv=>whnf)|((with_reducible refine Split.neg ?_))|((with_reducible refine Split.is_true ?_ ?_);decide;conv=>whnf)|((with_reducible refine Split.is_false ?_ ?_);decide;conv=>whnf)|((with_reducible refine Split.nez (fun _=>?_) (fun _=>?_))<;>conv=>whnf)|((with_reducible refine Split.eqz (fun _=>?_) (fun _=>?_))<;>conv=>whnf)|((with_reducible refine Split.dec (fun _=>?_) (fun _=>?_))<;>conv=>whnf)|((with_reducible refine Need.mk ?_ ?_);(first|omega|rfl|decide|(refine ⟨?_, ?_⟩<;>simp<;>omega)|(simp;omega));conv=>whnf)|((with_reducible refine Wr.quo ?_ ?_ ?_ ?_);omega;omega;omega;conv=>whnf)|((with_reducible refine Wr.inr ?_ ?_);(first|omega|(simp;omega));conv=>whnf)|((with_reducible refine AltK.l ?_);(conv=>whnf);(first|(refine CallK.mk _ (h1) ?_)|(refine CallK.mk _ (h2) ?_));conv=>whnf)|(exfalso;first|omega|contradiction))
    rfl
  | true =>
    rw [if_neg (by decide)]
    by_cases hr : r < v
    · rw [if_pos hr]
      refine ev_of_awp tysOk mixed (fn := Try.f62) Try.func62 rfl rfl rfl ?_
      conv => whnf
      repeat' (first|((with_reducible refine Split.of_true ?_);conv=>whnf)|((with_reducible refine Split.of_false ?_);conv=>whnf)|((with_reducible refine Split.neg ?_))|((with_reducible refine Split.is_true ?_ ?_);decide;conv=>whnf)|((with_reducible refine Split.is_false ?_ ?_);decide;conv=>whnf)|((with_reducible refine Split.nez (fun _=>?_) (fun _=>?_))<;>conv=>whnf)|((with_reducible refine Split.eqz (fun _=>?_) (fun _=>?_))<;>conv=>whnf)|((with_reducible refine Split.dec (fun _=>?_) (fun _=>?_))<;>conv=>whnf)|((with_reducible refine Need.mk ?_ ?_);(first|omega|rfl|decide|(refine ⟨?_, ?_⟩<;>simp<;>omega)|(simp;omega));conv=>whnf)|((with_reducible refine Wr.quo ?_ ?_ ?_ ?_);omega;omega;omega;conv=>whnf)|((with_reducible refine Wr.inr ?_ ?_);(first|omega|(simp;omega));conv=>whnf)|((with_reducible refine AltK.l ?_);(conv=>whnf);(first|(refine CallK.mk _ (h1) ?_)|(refine CallK.mk _ (h2) ?_));conv=>whnf)|(exfalso;first|omega|contradiction))
      all_goals first
        | rfl
        | (exfalso;omega)
    · rw [if_neg hr]
      refine ev_of_awp tysOk mixed (fn := Try.f62) Try.func62 rfl rfl rfl ?_
      conv => whnf
      repeat' (first|((with_reducible refine Split.of_true ?_);conv=>whnf)|((with_reducible refine Split.of_false ?_);conv=>whnf)|((with_reducible refine Split.neg ?_))|((with_reducible refine Split.is_true ?_ ?_);decide;conv=>whnf)|((with_reducible refine Split.is_false ?_ ?_);decide;conv=>whnf)|((with_reducible refine Split.nez (fun _=>?_) (fun _=>?_))<;>conv=>whnf)|((with_reducible refine Split.eqz (fun _=>?_) (fun _=>?_))<;>conv=>whnf)|((with_reducible refine Split.dec (fun _=>?_) (fun _=>?_))<;>conv=>whnf)|((with_reducible refine Need.mk ?_ ?_);(first|omega|rfl|decide|(refine ⟨?_, ?_⟩<;>simp<;>omega)|(simp;omega));conv=>whnf)|((with_reducible refine Wr.quo ?_ ?_ ?_ ?_);omega;omega;omega;conv=>whnf)|((with_reducible refine Wr.inr ?_ ?_);(first|omega|(simp;omega));conv=>whnf)|((with_reducible refine AltK.l ?_);(conv=>whnf);(first|(refine CallK.mk _ (h1) ?_)|(refine CallK.mk _ (h2) ?_));conv=>whnf)|(exfalso;first|omega|contradiction))
      all_goals first
        | rfl
        | (exfalso;omega)
end Go.Proofs.Try
end

section
namespace Go.Proofs.Try
open Go Go.Vm
set_option maxRecDepth 20000
set_option maxHeartbeats 4000000
/-! Disposal: copies of yards; Place. -/
theorem ev_cloned (l : List Int) (hn : l.length ≤ 100000) : Ev Try.prog 53 [.sl 1 (l.map iD)] (.sl 1 (l.map iD)) := by
  have hl : (l.map iD).length = l.length := List.length_map _
  cases l with
  | nil =>
    refine ev_of_awp tysOk mixed (fn := Try.f53) Try.func53 rfl rfl rfl ?_
    conv => whnf
    repeat' (first|((refine Split.is_true rfl ?_);conv=>whnf)|((with_reducible refine Split.of_true ?_);conv=>whnf)|((with_reducible refine Split.of_false ?_);conv=>whnf)|((with_reducible refine Split.neg ?_))|((with_reducible refine Split.is_true ?_ ?_);decide;conv=>whnf)|((with_reducible refine Split.is_false ?_ ?_);decide;conv=>whnf)|((with_reducible refine Split.nez (fun _=>?_) (fun _=>?_))<;>conv=>whnf)|((with_reducible refine Split.eqz (fun _=>?_) (fun _=>?_))<;>conv=>whnf)|((with_reducible refine Split.dec (fun _=>?_) (fun _=>?_))<;>conv=>whnf)|((with_reducible refine Need.mk ?_ ?_);(first|omega|rfl|decide|(refine ⟨?_, ?_⟩<;>simp<;>omega)|(simp;omega));conv=>whnf)|((with_reducible refine Wr.inr ?_ ?_);(first|omega|(simp;omega));conv=>whnf)|(exfalso;first|omega|contradiction))
    rfl
  | cons a r =>
    have hn' : r.length + 1 ≤ 100000 := by simpa using hn
    have hpos : (List.map iD (a :: r)).length = r.length + 1 := by simp
    refine ev_of_awp tysOk mixed (fn := Try.f53) Try.func53 rfl rfl rfl ?_
    conv => whnf
    repeat' (first|((with_reducible refine Split.of_true ?_);conv=>whnf)|((with_reducible refine Split.of_false ?_);conv=>whnf)|((with_reducible refine Split.neg ?_))|((with_reducible refine Split.is_true ?_ ?_);decide;conv=>whnf)|((with_reducible refine Split.is_false ?_ ?_);decide;conv=>whnf)|((with_reducible refine Split.nez (fun _=>?_) (fun _=>?_))<;>conv=>whnf)|((with_reducible refine Split.eqz (fun _=>?_) (fun _=>?_))<;>conv=>whnf)|((with_reducible refine Split.dec (fun _=>?_) (fun _=>?_))<;>conv=>whnf)|((with_reducible refine Need.mk ?_ ?_);(first|omega|rfl|decide|(refine ⟨?_, ?_⟩<;>simp<;>omega)|(simp;omega));conv=>whnf)|((with_reducible refine Wr.inr ?_ ?_);(first|omega|(simp;omega));conv=>whnf)|(exfalso;first|omega|contradiction))
    show (D.sl 1 _) = D.sl 1 _
    congr 1
    exact hmpCpy
theorem set_same {α : Type} {l : List α} {i : Nat} {a : α} (h : l[i]? = some a) (f : α → D) : (l.map f).set i (f a) = l.map f := by
  refine List.ext_getElem? fun j => ?_
  rw [List.getElem?_set]
  split
  · rename_i e
    subst e
    rw [if_pos (by rw [List.length_map]; exact lt_of_some h), List.getElem?_map, h]; rfl
  · rfl
theorem xv_copied (y : Yd) (h1 : y.pits.length ≤ 1000) (h2 : y.bulk.length ≤ 1000) (h3 : y.deps.length ≤ 1000) (h4 : y.carry.length ≤ 1000) (hcl : ∀ p ∈ y.pits, p.cls.length ≤ 100000) :
    EvX Try.prog 61 [.d (ydD y)] [] (.agg [.own 9 6 (y.pits.map ptD).length, .own 2009 3 (y.bulk.map bkD).length, .own 4009 3 (y.deps.map dpD).length, .own 6009 1 (y.carry.map iD).length])
      [(9, .row 60 6 (y.pits.map ptD) false), (2009, .row 69 3 (y.bulk.map bkD) false), (4009, .row 81 3 (y.deps.map dpD) false), (6009, .row 3 1 (y.carry.map iD) false)] := by
  have hlp : (y.pits.map ptD).length = y.pits.length := List.length_map _
  have c1 := EvX.new1 (xs := [.sl 6 (y.pits.map ptD)]) (xv_clonedP y.pits (by omega)) 7
  have c2 := EvX.new1 (xs := [.sl 3 (y.bulk.map bkD)]) (xv_clonedB y.bulk (by omega)) 10
  have c3 := EvX.new1 (xs := [.sl 3 (y.deps.map dpD)]) (xv_clonedD y.deps (by omega)) 13
  have c4 := EvX.new1 (xs := [.sl 1 (y.carry.map iD)]) (xv_clonedI y.carry (by omega)) 16
  refine evx_of_awp tysOk mixed (fn := Try.f61) Try.func61 rfl rfl rfl ?_
  conv => whnf
  repeat' (first|((with_reducible refine Split.of_true ?_);conv=>whnf)|((with_reducible refine Split.of_false ?_);conv=>whnf)|((with_reducible refine Split.neg ?_))|((with_reducible refine Split.is_true ?_ ?_);decide;conv=>whnf)|((with_reducible refine Split.is_false ?_ ?_);decide;conv=>whnf)|((with_reducible refine Split.nez (fun _=>?_) (fun _=>?_))<;>conv=>whnf)|((with_reducible refine Split.eqz (fun _=>?_) (fun _=>?_))<;>conv=>whnf)|((with_reducible refine Split.dec (fun _=>?_) (fun _=>?_))<;>conv=>whnf)|((with_reducible refine Need.mk ?_ ?_);(first|omega|rfl|decide|(refine ⟨?_, ?_⟩<;>simp<;>omega)|(simp;omega));conv=>whnf)|((with_reducible refine Wr.inr ?_ ?_);(first|omega|(simp;omega));conv=>whnf)|((with_reducible refine AltK.r ?_);(conv=>whnf);(first|(refine CallX.mk _ _ (c1) rfl ?_)|(refine CallX.mk _ _ (c2) rfl ?_)|(refine CallX.mk _ _ (c3) rfl ?_)|(refine CallX.mk _ _ (c4) rfl ?_));conv=>whnf)|(exfalso;first|omega|contradiction))
  refine LoopK.o2 (fun i : Nat => i ≤ y.pits.length) (fun i => [(21, .d (.int .i64 i))]) (fun _ => []) (fun i => y.pits.length - i) 0 (by omega) (by refine ⟨?_, ?_, rfl⟩<;>(repeat' (first|exact True.intro|exact rfl|refine ⟨?_, ?_⟩|(intro h;cases h;done)|(intro h;exact h)|exact map_snoc|(refine own_congr ?_;simp;done)|(refine int_congr ?_;(first|omega|(simp;omega)))|(simp;done)));done) ?_
  rintro i hi
  by_cases hil : i < y.pits.length
  · obtain ⟨p, hp⟩ := some_of_lt hil
    have hc := ev_cloned p.cls (hcl p (List.mem_of_getElem? hp))
    have hmp1 := set_same hp ptD
    conv => whnf
    repeat' (first|((refine PickE.map i hp (by omega) ?_);conv=>whnf)|((with_reducible refine Split.of_true ?_);conv=>whnf)|((with_reducible refine Split.of_false ?_);conv=>whnf)|((with_reducible refine Split.neg ?_))|((with_reducible refine Split.is_true ?_ ?_);decide;conv=>whnf)|((with_reducible refine Split.is_false ?_ ?_);decide;conv=>whnf)|((with_reducible refine Split.nez (fun _=>?_) (fun _=>?_))<;>conv=>whnf)|((with_reducible refine Split.eqz (fun _=>?_) (fun _=>?_))<;>conv=>whnf)|((with_reducible refine Split.dec (fun _=>?_) (fun _=>?_))<;>conv=>whnf)|((with_reducible refine Need.mk ?_ ?_);(first|omega|rfl|decide|(refine ⟨?_, ?_⟩<;>simp<;>omega)|(simp;omega));conv=>whnf)|((with_reducible refine Wr.inr ?_ ?_);(first|omega|(simp;omega));conv=>whnf)|((with_reducible refine AltK.l ?_);(conv=>whnf);(first|(refine CallK.mk _ (hc) ?_));conv=>whnf)|(exfalso;first|omega|contradiction))
    exact Again.au (i + 1) (by omega) (by omega) (by refine ⟨?_, ?_, rfl⟩<;>(repeat' (first|exact True.intro|exact rfl|refine ⟨?_, ?_⟩|(intro h;cases h;done)|(intro h;exact h)|exact map_snoc|(refine own_congr ?_;simp;done)|(refine int_congr ?_;(first|omega|(simp;omega)))|(simp;done)|exact hmp1|((first|refine own_congr ?_|refine int_congr ?_|skip);simp [D.cells];done)|((first|refine own_congr ?_|refine int_congr ?_);simp [D.cells];omega)|(show @Eq (List Go.Vm.D) _ [];simp [D.cells];done)|(simp [D.cells, D.cells];done)));done)
  · conv => whnf
    repeat' (first|((with_reducible refine Split.of_true ?_);conv=>whnf)|((with_reducible refine Split.of_false ?_);conv=>whnf)|((with_reducible refine Split.neg ?_))|((with_reducible refine Split.is_true ?_ ?_);decide;conv=>whnf)|((with_reducible refine Split.is_false ?_ ?_);decide;conv=>whnf)|((with_reducible refine Split.nez (fun _=>?_) (fun _=>?_))<;>conv=>whnf)|((with_reducible refine Split.eqz (fun _=>?_) (fun _=>?_))<;>conv=>whnf)|((with_reducible refine Split.dec (fun _=>?_) (fun _=>?_))<;>conv=>whnf)|((with_reducible refine Need.mk ?_ ?_);(first|omega|rfl|decide|(refine ⟨?_, ?_⟩<;>simp<;>omega)|(simp;omega));conv=>whnf)|((with_reducible refine Wr.inr ?_ ?_);(first|omega|(simp;omega));conv=>whnf)|(exfalso;first|omega|contradiction))
    exact ⟨⟨[(9, some 7), (2009, some 10), (4009, some 13), (6009, some 16)], (by refine ⟨?_, ?_, rfl⟩<;>(repeat' (first|exact True.intro|exact rfl|refine ⟨?_, ?_⟩|(intro h;cases h;done)|(intro h;exact h)|exact map_snoc|(refine own_congr ?_;simp;done)|(refine int_congr ?_;(first|omega|(simp;omega)))|(simp;done)));done)⟩, rfl⟩
end Go.Proofs.Try
end

section
namespace Go.Proofs.Try
open Go Go.Vm
set_option maxRecDepth 20000
set_option maxHeartbeats 8000000
/-! Disposal: Place. -/
theorem ev_ContDp (l : List Dp) (f : Nat) (caps : List D) (p : Dp → Bool) (hn : l.length ≤ 1000000) (hf : ∀ g ∈ l, Ev Try.prog f ([dpD g] ++ caps) (.bool (p g))) :
    Ev Try.prog 104 [.sl 3 (l.map dpD), .fn f caps] (.bool (l.any p)) := by
  have h := ev_IndexDp l f caps p hn hf
  rw [any_ix]
  generalize ixI p l = i at *
  refine ev_of_awp tysOk mixed (fn := Try.f104) Try.func104 rfl rfl rfl ?_
  conv => whnf
  repeat' (first|((with_reducible refine Split.of_true ?_);conv=>whnf)|((with_reducible refine Split.of_false ?_);conv=>whnf)|((with_reducible refine Split.neg ?_))|((with_reducible refine Split.is_true ?_ ?_);decide;conv=>whnf)|((with_reducible refine Split.is_false ?_ ?_);decide;conv=>whnf)|((with_reducible refine Split.nez (fun _=>?_) (fun _=>?_))<;>conv=>whnf)|((with_reducible refine Split.eqz (fun _=>?_) (fun _=>?_))<;>conv=>whnf)|((with_reducible refine Split.dec (fun _=>?_) (fun _=>?_))<;>conv=>whnf)|((with_reducible refine Need.mk ?_ ?_);(first|omega|rfl|decide|(refine ⟨?_, ?_⟩<;>simp<;>omega)|(simp;omega));conv=>whnf)|((with_reducible refine Wr.inr ?_ ?_);(first|omega|(simp;omega));conv=>whnf)|((with_reducible refine AltK.l ?_);(conv=>whnf);(first|(refine CallK.mk _ (h) ?_));conv=>whnf)|(exfalso;first|omega|contradiction))
  simp only [retOf, D.bool.injEq, decide_eq_decide]; omega
theorem ev_deposited1 (d : Dp) (n : Int) : Ev Try.prog 105 [dpD d, .ref [iD n] 0] (.bool (d.batch == n)) := by
  refine ev_of_awp tysOk mixed (fn := Try.f105) Try.func105 rfl rfl rfl ?_
  conv => whnf
  repeat' (first|((with_reducible refine Split.of_true ?_);conv=>whnf)|((with_reducible refine Split.of_false ?_);conv=>whnf)|((with_reducible refine Split.neg ?_))|((with_reducible refine Split.is_true ?_ ?_);decide;conv=>whnf)|((with_reducible refine Split.is_false ?_ ?_);decide;conv=>whnf)|((with_reducible refine Split.nez (fun _=>?_) (fun _=>?_))<;>conv=>whnf)|((with_reducible refine Split.eqz (fun _=>?_) (fun _=>?_))<;>conv=>whnf)|((with_reducible refine Split.dec (fun _=>?_) (fun _=>?_))<;>conv=>whnf)|((with_reducible refine Need.mk ?_ ?_);(first|omega|rfl|decide|(refine ⟨?_, ?_⟩<;>simp<;>omega)|(simp;omega));conv=>whnf)|((with_reducible refine Wr.inr ?_ ?_);(first|omega|(simp;omega));conv=>whnf)|(exfalso;first|omega|contradiction))
  rfl
def depB (y : Yd) (n : Int) : Bool := y.deps.any fun x => x.batch == n
theorem ev_deposited (y : Yd) (n : Int) (hn : y.deps.length ≤ 1000000) : Ev Try.prog 60 [ydD y, iD n] (.bool (depB y n)) := by
  have h := ev_ContDp y.deps 105 [.ref [iD n] 0] (fun x => x.batch == n) hn (fun d _ => ev_deposited1 d n)
  refine ev_of_awp tysOk mixed (fn := Try.f60) Try.func60 rfl rfl rfl ?_
  conv => whnf
  repeat' (first|((with_reducible refine Split.of_true ?_);conv=>whnf)|((with_reducible refine Split.of_false ?_);conv=>whnf)|((with_reducible refine Split.neg ?_))|((with_reducible refine Split.is_true ?_ ?_);decide;conv=>whnf)|((with_reducible refine Split.is_false ?_ ?_);decide;conv=>whnf)|((with_reducible refine Split.nez (fun _=>?_) (fun _=>?_))<;>conv=>whnf)|((with_reducible refine Split.eqz (fun _=>?_) (fun _=>?_))<;>conv=>whnf)|((with_reducible refine Split.dec (fun _=>?_) (fun _=>?_))<;>conv=>whnf)|((with_reducible refine Need.mk ?_ ?_);(first|omega|rfl|decide|(refine ⟨?_, ?_⟩<;>simp<;>omega)|(simp;omega));conv=>whnf)|((with_reducible refine Wr.inr ?_ ?_);(first|omega|(simp;omega));conv=>whnf)|((with_reducible refine AltK.l ?_);(conv=>whnf);(first|(refine CallK.mk _ (h) ?_));conv=>whnf)|(exfalso;first|omega|contradiction))
  rfl
def plErr (y : Yd) (b : Bt) (s : ByteArray) (v : Int) : Int := if depB y b.n = true then 5 else if pitI y s < 0 then 6 else
  match y.pits[(pitI y s).toNat]? with
  | none => 6
  | some p => if refS y p b.cls v ≠ 0 then refS y p b.cls v else if 200 ≤ y.deps.length then 8 else 0
def plY (y : Yd) (b : Bt) (s : ByteArray) (k : Nat) (f : Bk) (c : Int) : Yd := { y with deps := y.deps ++ [⟨b.n, s, volN b f c⟩], carry := y.carry.set k (carN b f c) }
def y0 : Yd := ⟨[], [], [], []⟩
theorem ev_Place {y : Yd} {b : Bt} {s : ByteArray} {k : Nat} {f : Bk} {c : Int} (hcl : ∀ x ∈ y.pits, x.cls.length ≤ 100000) (h0 : withErr y b = 0) (h : Wok y b k f c) :
    Ev Try.prog 19 [ydD y, btD b, .str s] (.tup [ydD (if plErr y b s (volN b f c) = 0 then plY y b s k f c else y0), iD (plErr y b s (volN b f c))]) := by
  have hsm : smallP y := fun p hp => Nat.le_trans (hcl p hp) (by decide)
  have h1 := ev_CheckBatch y b hsm
  rw [h0] at h1
  have hP := h.yok.pits
  have hB := h.yok.bulk
  have hD := h.yok.deps
  have hC := h.yok.carL
  have hco := h.co
  have hden := h.fo.den
  have h2 := ev_pitOf y s (by omega)
  have h3 := ev_deposited y b.n (by omega)
  have hlp : (y.pits.map ptD).length = y.pits.length := List.length_map _
  have hld : (y.deps.map dpD).length = y.deps.length := List.length_map _
  have hcp := (xv_copied y (by omega) (by omega) (by omega) (by omega) hcl).rn [(9, 34), (2009, 2034), (4009, 4034), (6009, 6034)] rfl
  have hbk := (xv_bulked y b y.carry hB h.ixk h.fat h.cat h.bok h.fo (by omega)).rn [(1000, 6034)] rfl
  by_cases hdb : depB y b.n = true
  · have e : plErr y b s (volN b f c) = 5 := by rw [plErr, if_pos hdb]
    rw [e, if_neg (by decide)]
    rw [hdb] at h3
    refine ev_of_awp tysOk mixed (fn := Try.f19) Try.func19 rfl rfl rfl ?_
    conv => whnf
    repeat' (first|((with_reducible refine Split.of_true ?_);conv=>whnf)|((with_reducible refine Split.of_false ?_);conv=>whnf)|((with_reducible refine Split.neg ?_))|((with_reducible refine Split.is_true ?_ ?_);decide;conv=>whnf)|((with_reducible refine Split.is_false ?_ ?_);decide;conv=>whnf)|((with_reducible refine Split.nez (fun _=>?_) (fun _=>?_))<;>conv=>whnf)|((with_reducible refine Split.eqz (fun _=>?_) (fun _=>?_))<;>conv=>whnf)|((with_reducible refine Split.dec (fun _=>?_) (fun _=>?_))<;>conv=>whnf)|((with_reducible refine Need.mk ?_ ?_);(first|omega|rfl|decide|(refine ⟨?_, ?_⟩<;>simp<;>omega)|(simp;omega));conv=>whnf)|((with_reducible refine Wr.inr ?_ ?_);(first|omega|(simp;omega));conv=>whnf)|((with_reducible refine AltK.l ?_);(conv=>whnf);(first|(refine CallK.mk _ (h1) ?_)|(refine CallK.mk _ (h2) ?_)|(refine CallK.mk _ (h3) ?_));conv=>whnf)|(exfalso;first|omega|contradiction))
    all_goals first
      | rfl
      | (exfalso;omega)
  have hdb' : depB y b.n = false := by simpa using hdb
  rw [hdb'] at h3
  by_cases hi : pitI y s < 0
  · have e : plErr y b s (volN b f c) = 6 := by rw [plErr, if_neg hdb, if_pos hi]
    rw [e, if_neg (by decide)]
    refine ev_of_awp tysOk mixed (fn := Try.f19) Try.func19 rfl rfl rfl ?_
    conv => whnf
    repeat' (first|((with_reducible refine Split.of_true ?_);conv=>whnf)|((with_reducible refine Split.of_false ?_);conv=>whnf)|((with_reducible refine Split.neg ?_))|((with_reducible refine Split.is_true ?_ ?_);decide;conv=>whnf)|((with_reducible refine Split.is_false ?_ ?_);decide;conv=>whnf)|((with_reducible refine Split.nez (fun _=>?_) (fun _=>?_))<;>conv=>whnf)|((with_reducible refine Split.eqz (fun _=>?_) (fun _=>?_))<;>conv=>whnf)|((with_reducible refine Split.dec (fun _=>?_) (fun _=>?_))<;>conv=>whnf)|((with_reducible refine Need.mk ?_ ?_);(first|omega|rfl|decide|(refine ⟨?_, ?_⟩<;>simp<;>omega)|(simp;omega));conv=>whnf)|((with_reducible refine Wr.inr ?_ ?_);(first|omega|(simp;omega));conv=>whnf)|((with_reducible refine AltK.l ?_);(conv=>whnf);(first|(refine CallK.mk _ (h1) ?_)|(refine CallK.mk _ (h2) ?_)|(refine CallK.mk _ (h3) ?_));conv=>whnf)|(exfalso;first|omega|contradiction))
    all_goals first
      | rfl
      | (exfalso;omega)
  obtain ⟨j, p, hj, hpj, -⟩ := ix_at hi
  have hj : pitI y s = j := hj
  have e : plErr y b s (volN b f c) = if refS y p b.cls (volN b f c) ≠ 0 then refS y p b.cls (volN b f c) else if 200 ≤ y.deps.length then 8 else 0 := by
    rw [plErr, if_neg hdb, if_neg hi, hj, Int.toNat_natCast, hpj]
  rw [e]
  rw [hj] at h2 hi
  clear e hj
  have hpo := h.yok.pit p (List.mem_of_getElem? hpj)
  have hr := ev_refusal y b.cls (volN b f c) hpo.1 h.yok.vol (by omega) (Nat.le_trans (hcl p (List.mem_of_getElem? hpj)) (by decide))
  have hvb := volN_bd h
  have ev' : ((b.bed - b.over) * f.num + c) / f.den = volN b f c := rfl
  have ec' : ((b.bed - b.over) * f.num + c) % f.den = carN b f c := rfl
  rw [ev', ec'] at hbk
  have epl : plY y b s k f c = { y with deps := y.deps ++ [⟨b.n, s, volN b f c⟩], carry := y.carry.set k (carN b f c) } := rfl
  rw [epl]
  clear epl
  generalize volN b f c = v at *
  generalize carN b f c = cn at *
  generalize refS y p b.cls v = rf at *
  by_cases hz : rf = 0
  case neg =>
    rw [if_pos hz, if_neg hz]
    refine ev_of_awp tysOk mixed (fn := Try.f19) Try.func19 rfl rfl rfl ?_
    conv => whnf
    repeat' (first|((refine PickE.map j hpj (by omega) ?_);conv=>whnf)|((with_reducible refine Split.of_true ?_);conv=>whnf)|((with_reducible refine Split.of_false ?_);conv=>whnf)|((with_reducible refine Split.neg ?_))|((with_reducible refine Split.is_true ?_ ?_);decide;conv=>whnf)|((with_reducible refine Split.is_false ?_ ?_);decide;conv=>whnf)|((with_reducible refine Split.nez (fun _=>?_) (fun _=>?_))<;>conv=>whnf)|((with_reducible refine Split.eqz (fun _=>?_) (fun _=>?_))<;>conv=>whnf)|((with_reducible refine Split.dec (fun _=>?_) (fun _=>?_))<;>conv=>whnf)|((with_reducible refine Need.mk ?_ ?_);(first|omega|rfl|decide|(refine ⟨?_, ?_⟩<;>simp<;>omega)|(simp;omega));conv=>whnf)|((with_reducible refine Wr.inr ?_ ?_);(first|omega|(simp;omega));conv=>whnf)|((with_reducible refine AltK.r ?_);(conv=>whnf);(first|(refine CallX.mk _ _ (hcp) rfl ?_)|(refine CallX.mk _ _ (hbk) rfl ?_));conv=>whnf)|((with_reducible refine AltK.l ?_);(conv=>whnf);(first|(refine CallK.mk _ (h1) ?_)|(refine CallK.mk _ (h2) ?_)|(refine CallK.mk _ (h3) ?_)|(refine CallK.mk _ (hr) ?_));conv=>whnf)|(exfalso;first|omega|contradiction))
    all_goals first
      | rfl
      | (exfalso;omega)
  subst hz
  have ez : (if (0 : Int) ≠ 0 then (0 : Int) else if 200 ≤ y.deps.length then 8 else 0) = if 200 ≤ y.deps.length then 8 else 0 := if_neg (by decide)
  rw [ez]
  by_cases h200 : 200 ≤ y.deps.length
  · have e8 : (if 200 ≤ y.deps.length then (8 : Int) else 0) = 8 := if_pos h200
    rw [e8, if_neg (by decide)]
    refine ev_of_awp tysOk mixed (fn := Try.f19) Try.func19 rfl rfl rfl ?_
    conv => whnf
    repeat' (first|((refine PickE.map j hpj (by omega) ?_);conv=>whnf)|((with_reducible refine Split.of_true ?_);conv=>whnf)|((with_reducible refine Split.of_false ?_);conv=>whnf)|((with_reducible refine Split.neg ?_))|((with_reducible refine Split.is_true ?_ ?_);decide;conv=>whnf)|((with_reducible refine Split.is_false ?_ ?_);decide;conv=>whnf)|((with_reducible refine Split.nez (fun _=>?_) (fun _=>?_))<;>conv=>whnf)|((with_reducible refine Split.eqz (fun _=>?_) (fun _=>?_))<;>conv=>whnf)|((with_reducible refine Split.dec (fun _=>?_) (fun _=>?_))<;>conv=>whnf)|((with_reducible refine Need.mk ?_ ?_);(first|omega|rfl|decide|(refine ⟨?_, ?_⟩<;>simp<;>omega)|(simp;omega));conv=>whnf)|((with_reducible refine Wr.inr ?_ ?_);(first|omega|(simp;omega));conv=>whnf)|((with_reducible refine AltK.r ?_);(conv=>whnf);(first|(refine CallX.mk _ _ (hcp) rfl ?_)|(refine CallX.mk _ _ (hbk) rfl ?_));conv=>whnf)|((with_reducible refine AltK.l ?_);(conv=>whnf);(first|(refine CallK.mk _ (h1) ?_)|(refine CallK.mk _ (h2) ?_)|(refine CallK.mk _ (h3) ?_)|(refine CallK.mk _ (hr) ?_));conv=>whnf)|(exfalso;first|omega|contradiction))
    all_goals first
      | rfl
      | (exfalso;omega)
  · have e8 : (if 200 ≤ y.deps.length then (8 : Int) else 0) = 0 := if_neg h200
    rw [e8, if_pos rfl]
    refine ev_of_awp tysOk mixed (fn := Try.f19) Try.func19 rfl rfl rfl ?_
    conv => whnf
    repeat' (first|((refine PickE.map j hpj (by omega) ?_);conv=>whnf)|((with_reducible refine Split.of_true ?_);conv=>whnf)|((with_reducible refine Split.of_false ?_);conv=>whnf)|((with_reducible refine Split.neg ?_))|((with_reducible refine Split.is_true ?_ ?_);decide;conv=>whnf)|((with_reducible refine Split.is_false ?_ ?_);decide;conv=>whnf)|((with_reducible refine Split.nez (fun _=>?_) (fun _=>?_))<;>conv=>whnf)|((with_reducible refine Split.eqz (fun _=>?_) (fun _=>?_))<;>conv=>whnf)|((with_reducible refine Split.dec (fun _=>?_) (fun _=>?_))<;>conv=>whnf)|((with_reducible refine Need.mk ?_ ?_);(first|omega|rfl|decide|(refine ⟨?_, ?_⟩<;>simp<;>omega)|(simp;omega));conv=>whnf)|((with_reducible refine Wr.inr ?_ ?_);(first|omega|(simp;omega));conv=>whnf)|((with_reducible refine AltK.r ?_);(conv=>whnf);(first|(refine CallX.mk _ _ (hcp) rfl ?_)|(refine CallX.mk _ _ (hbk) rfl ?_));conv=>whnf)|((with_reducible refine AltK.l ?_);(conv=>whnf);(first|(refine CallK.mk _ (h1) ?_)|(refine CallK.mk _ (h2) ?_)|(refine CallK.mk _ (h3) ?_)|(refine CallK.mk _ (hr) ?_));conv=>whnf)|(exfalso;first|omega|contradiction))
    all_goals first
      | (simp [retOf, ydD, dpD, iD];done)
      | (exfalso;omega)
end Go.Proofs.Try
end

section
namespace Go.Proofs.Try
open Go Go.Vm
set_option maxRecDepth 20000
set_option maxHeartbeats 4000000
/-! The assignment of batches to pits: what the code computes, in plain terms. A function gives nothing where its steps do not suffice or a number leaves its limits. -/
/-- What is reached: batches and pits, each with what was before it; those that wait. -/
structure Rs where
  bs : List (Nat × Int)
  ps : List (Nat × Int)
  q : List Nat
def hasN (m : List (Nat × Int)) (k : Nat) : Bool := m.any fun e => e.1 == k
def getZ (m : List (Nat × Int)) (k : Nat) : Int := match m.find? fun e => e.1 == k with
  | some e => e.2
  | none => 0
def cellZ (fl : List (List Int)) (b p : Nat) : Int := (fl.getD b []).getD p 0
def leftF (vol : List Int) (fl : List (List Int)) (b : Nat) : Int := vol.getD b 0 - (fl.getD b []).sum
def freeF (room : List Int) (fl : List (List Int)) (p : Nat) : Int := room.getD p 0 - (fl.map fun r => r.getD p 0).sum
def stO (fl : List (List Int)) (p : Nat) (s : Rs) (o : Nat) : Rs := if hasN s.bs o = true then s else if 0 < cellZ fl o p then ⟨s.bs ++ [(o, (p : Int))], s.ps, s.q ++ [o]⟩ else s
def stP (acc : Nat → Nat → Bool) (L : Nat) (fl : List (List Int)) (b : Nat) (s : Rs) (p : Nat) : Rs :=
  if hasN s.ps p = true then s else if acc p b = false then s else (List.range L).foldl (stO fl p) ⟨s.bs, s.ps ++ [(p, (b : Int))], s.q⟩
def rsGo (acc : Nat → Nat → Bool) (P L : Nat) (fl : List (List Int)) : Nat → Rs → Option Rs
  | 0, s => if s.q = [] then some s else none
  | n + 1, s => match s.q with
    | [] => some s
    | b :: _ => rsGo acc P L fl n ⟨((List.range P).foldl (stP acc L fl b) s).bs, ((List.range P).foldl (stP acc L fl b) s).ps, ((List.range P).foldl (stP acc L fl b) s).q.tail⟩
def st1 (vol : List Int) (fl : List (List Int)) (s : Rs) (b : Nat) : Rs := if 0 < leftF vol fl b then ⟨s.bs ++ [(b, -1)], s.ps, s.q ++ [b]⟩ else s
def rs0 (L : Nat) (vol : List Int) (fl : List (List Int)) : Rs := (List.range L).foldl (st1 vol fl) ⟨[], [], []⟩
def reachF (acc : Nat → Nat → Bool) (P L n : Nat) (vol : List Int) (fl : List (List Int)) : Option Rs := rsGo acc P L fl n (rs0 L vol fl)
/-- The way to a pit, and the least that fits along it. -/
def pathF (P L : Nat) (vol : List Int) (fl : List (List Int)) (w : Rs) : Nat → Nat → Int → Option (List (Int × Int × Int) × Int)
  | 0, _, _ => none
  | n + 1, p, a =>
    if hasN w.ps p = true ∧ 0 ≤ getZ w.ps p ∧ getZ w.ps p < L ∧ hasN w.bs (getZ w.ps p).toNat = true ∧ getZ w.bs (getZ w.ps p).toNat < P then
      if getZ w.bs (getZ w.ps p).toNat < 0 then some ([(getZ w.ps p, (p : Int), getZ w.bs (getZ w.ps p).toNat)], minI a (leftF vol fl (getZ w.ps p).toNat))
      else match pathF P L vol fl w n (getZ w.bs (getZ w.ps p).toNat).toNat (minI a (cellZ fl (getZ w.ps p).toNat (getZ w.bs (getZ w.ps p).toNat).toNat)) with
        | some r => some ((getZ w.ps p, (p : Int), getZ w.bs (getZ w.ps p).toNat) :: r.1, r.2)
        | none => none
    else none
def okZ (x : Int) : Bool := decide (0 ≤ x) && decide (x ≤ 100000000000000000)
def okFl (fl : List (List Int)) : Bool := fl.all fun r => r.all okZ
def addF (fl : List (List Int)) (b p : Nat) (a : Int) : List (List Int) := fl.set b ((fl.getD b []).set p (cellZ fl b p + a))
def apSt (a : Int) (fl : List (List Int)) (x : Int × Int × Int) : List (List Int) :=
  if 0 ≤ x.2.2 then addF (addF fl x.1.toNat x.2.1.toNat a) x.1.toNat x.2.2.toNat (-a) else addF fl x.1.toNat x.2.1.toNat a
def stepOk (P L : Nat) (x : Int × Int × Int) : Bool := decide (0 ≤ x.1) && decide (x.1 < L) && decide (0 ≤ x.2.1) && decide (x.2.1 < P) && decide (x.2.2 < P)
def apF (P L : Nat) (a : Int) : List (List Int) → List (Int × Int × Int) → Option (List (List Int))
  | fl, [] => some fl
  | fl, x :: r => if stepOk P L x = true ∧ okFl (apSt a fl x) = true then apF P L a (apSt a fl x) r else none
/-- One push: nothing where steps or limits do not suffice; 'some none' where no more goes into the pit. -/
def pushF (acc : Nat → Nat → Bool) (P L n : Nat) (vol room : List Int) (fl : List (List Int)) (pit : Nat) : Option (Option (List (List Int))) :=
  match reachF acc P L n vol fl with
  | none => none
  | some w => if hasN w.ps pit = false ∨ freeF room fl pit = 0 then some none else
    match pathF P L vol fl w n pit (freeF room fl pit) with
    | none => none
    | some (st, a) => match apF P L a fl st with
      | none => none
      | some fl' => some (some fl')
def fillF (acc : Nat → Nat → Bool) (P L n : Nat) (vol room : List Int) (pit : Nat) : Nat → List (List Int) → Option (List (List Int))
  | 0, _ => none
  | k + 1, fl => match pushF acc P L n vol room fl pit with
    | none => none
    | some none => some fl
    | some (some fl') => fillF acc P L n vol room pit k fl'
def fillsF (acc : Nat → Nat → Bool) (P L n k : Nat) (vol room : List Int) : List Nat → List (List Int) → Option (List (List Int))
  | [], fl => some fl
  | p :: r, fl => match fillF acc P L n vol room p k fl with
    | none => none
    | some fl' => fillsF acc P L n k vol room r fl'
/-- The tariff: a price for each pit and each batch. -/
structure Tf where
  bs : List Int
  ps : List Int
  again : Bool
def okT (x : Int) : Bool := decide (-1000000000000 ≤ x) && decide (x ≤ 1000000000000)
def tf1 (price : Nat → Int) (b : Nat) (s : Tf) (p : Nat) : Tf := if price p + s.ps.getD p 0 < s.bs.getD b 0 then ⟨s.bs.set b (price p + s.ps.getD p 0), s.ps, true⟩ else s
def tf2 (price : Nat → Int) (fl : List (List Int)) (b : Nat) (s : Tf) (p : Nat) : Tf := if 0 < cellZ fl b p ∧ s.bs.getD b 0 - price p < s.ps.getD p 0 then ⟨s.bs, s.ps.set p (s.bs.getD b 0 - price p), true⟩ else s
def tfP (acc : Nat → Nat → Bool) (price : Nat → Int) (fl : List (List Int)) (b : Nat) (s : Tf) (p : Nat) : Tf := if acc p b = true then tf2 price fl b (tf1 price b s p) p else s
def tfB (acc : Nat → Nat → Bool) (price : Nat → Int) (fl : List (List Int)) (P : Nat) (s : Tf) (b : Nat) : Tf := (List.range P).foldl (tfP acc price fl b) s
def tfR (acc : Nat → Nat → Bool) (price : Nat → Int) (fl : List (List Int)) (P L : Nat) (s : Tf) : Tf := (List.range L).foldl (tfB acc price fl P) ⟨s.bs, s.ps, false⟩
def okTf (s : Tf) : Bool := s.bs.all okT && s.ps.all okT
def tfGo (acc : Nat → Nat → Bool) (price : Nat → Int) (fl : List (List Int)) (P L : Nat) : Nat → Tf → Option Tf
  | 0, s => if s.again = false then some s else none
  | n + 1, s => if s.again = false then some s else if okTf s = true then tfGo acc price fl P L n (tfR acc price fl P L s) else none
end Go.Proofs.Try
end

section
namespace Go.Proofs.Try
open Go Go.Vm
set_option maxRecDepth 20000
set_option maxHeartbeats 4000000
/-! The task: its boxes; left, free, accepts. -/
/-- The boxes of a task: 1000 the struct, 1001 the volumes, 1002 the rooms, 1003 the flow. -/
def tkX (y : Yd) (l : List Bt) (vol room : List Int) (fl : List (List Int)) : List (Nat × Bx) :=
  [(1003, .mat 25 3 0 (fl.map fun r => some (r.map iD))), (1002, .row 3 1 (room.map iD) false), (1001, .row 3 1 (vol.map iD) false),
   (1000, .var [.d (.sl 6 (y.pits.map ptD)), .d (.sl 3 (y.bulk.map bkD)), .d (.sl 3 (y.deps.map dpD)), .d (.sl 1 (y.carry.map iD)), .d (.sl 5 (l.map btD)), .own 1001 1 (vol.map iD).length, .own 1002 1 (room.map iD).length, .own 1003 1 fl.length] false)]
theorem PickR.map {α : Type} {f : α → List D} {l : List α} {x : α} {i : Nat} {k : List D → Prop} (n : Nat) (h : l[n]? = some x) (hn : i = n) (r : k (f x)) : PickR (l.map fun a => some (f a)) i k := by
  subst hn
  exact .mk (f x) (by rw [List.getElem?_map, h]; rfl) r
structure TkOk (y : Yd) (l : List Bt) (vol room : List Int) (fl : List (List Int)) : Prop where
  hP : y.pits.length ≤ 8
  hL : l.length ≤ 12
  hv : vol.length = l.length
  hr : room.length = y.pits.length
  hf : fl.length = l.length
  row : ∀ r ∈ fl, r.length = y.pits.length
  vb : ∀ v ∈ vol, 0 ≤ v ∧ v ≤ 100000000000000000
  rb : ∀ v ∈ room, 0 ≤ v ∧ v ≤ 100000000000000000
  fb : okFl fl = true
  cl : ∀ p ∈ y.pits, p.cls.length ≤ 1000000
theorem okFl_cell {fl : List (List Int)} (h : okFl fl = true) {r : List Int} (hr : r ∈ fl) {x : Int} (hx : x ∈ r) : 0 ≤ x ∧ x ≤ 100000000000000000 := by
  have := List.all_eq_true.1 (List.all_eq_true.1 h r hr) x hx
  simpa [okZ] using this
/-- Sums stay small. -/
theorem sum_bd {M : Int} : ∀ {r : List Int}, (∀ x ∈ r, 0 ≤ x ∧ x ≤ M) → 0 ≤ r.sum ∧ r.sum ≤ r.length * M
  | [], _ => by simp
  | x :: r, h => by
    have h1 := h x (by simp)
    have h2 := sum_bd (r := r) fun z hz => h z (by simp [hz])
    rw [List.sum_cons, List.length_cons]
    have : ((r.length + 1 : Nat) : Int) * M = r.length * M + M := by rw [Int.natCast_add, Int.add_mul]; simp
    omega
theorem xv_left {y : Yd} {l : List Bt} {vol room : List Int} {fl : List (List Int)} (h : TkOk y l vol room fl) {b : Nat} (hb : b < l.length) :
    EvX Try.prog 123 [.ptr 1000 0, .d (iD b)] (tkX y l vol room fl) (.d (iD (leftF vol fl b))) (tkX y l vol room fl) := by
  have hl1 : (vol.map iD).length = vol.length := List.length_map _
  have e1 := h.hv
  have e2 := h.hf
  have e3 := h.hL
  have e4 := h.hP
  obtain ⟨v, hv⟩ := some_of_lt (show b < vol.length by omega)
  obtain ⟨r, hr⟩ := some_of_lt (show b < fl.length by omega)
  have hrm := List.mem_of_getElem? hr
  have hrl := h.row r hrm
  have hrb := fun x hx => okFl_cell h.fb hrm (x := x) hx
  have hvb := h.vb v (List.mem_of_getElem? hv)
  have hl2 : (r.map iD).length = r.length := List.length_map _
  have h0 : v - (r.take 0).sum = v := by simp
  have el : leftF vol fl b = v - r.sum := by simp [leftF, List.getD, hv, hr]
  rw [el]
  unfold tkX
  refine evx_of_awp tysOk mixed (fn := Try.f123) Try.func123 rfl rfl rfl ?_
  conv => whnf
  repeat' (first|((refine PickR.map b hr (by omega) ?_);conv=>whnf)|((refine PickE.map b hv (by omega) ?_);conv=>whnf)|((with_reducible refine Split.of_true ?_);conv=>whnf)|((with_reducible refine Split.of_false ?_);conv=>whnf)|((with_reducible refine Split.neg ?_))|((with_reducible refine Split.is_true ?_ ?_);decide;conv=>whnf)|((with_reducible refine Split.is_false ?_ ?_);decide;conv=>whnf)|((with_reducible refine Split.eqz (fun _=>?_) (fun _=>?_))<;>conv=>whnf)|((with_reducible refine Split.dec (fun _=>?_) (fun _=>?_))<;>conv=>whnf)|((with_reducible refine Need.mk ?_ ?_);(first|omega|rfl|decide|(refine ⟨?_, ?_⟩<;>simp<;>omega)|(simp;omega));conv=>whnf)|((with_reducible refine Wr.inr ?_ ?_);(first|omega|(simp;omega));conv=>whnf)|(exfalso;first|omega|contradiction))
  refine LoopK.o2 (fun i : Nat => i ≤ r.length) (fun i => [(5, .d (iD (v - (r.take i).sum))), (23, .d (iD i)), (21, .sub 1003 0 (b : Int).toNat)]) (fun _ => []) (fun i => r.length - i) 0 (by simp) (by refine ⟨?_, ?_, rfl⟩<;>(repeat' (first|exact True.intro|exact rfl|refine ⟨?_, ?_⟩|(intro h;cases h;done)|(intro h;exact h)|exact map_snoc|(refine own_congr ?_;simp;done)|(refine int_congr ?_;(first|omega|(simp;omega)))|(simp;done)|((first|refine own_congr ?_|refine int_congr ?_|skip);simp [h0];done)|((first|refine own_congr ?_|refine int_congr ?_);simp [h0];omega)|(show @Eq (List Go.Vm.D) _ [];simp [h0];done)|(simp [D.cells, h0];done)));done) ?_
  rintro i hi
  dsimp only at hi ⊢
  have hsb := sum_bd (r := r.take i) fun x hx => hrb x (List.mem_of_mem_take hx)
  have hti : (r.take i).length = i := by rw [List.length_take]; omega
  rw [hti] at hsb
  by_cases hil : i < r.length
  · obtain ⟨x, hx⟩ := some_of_lt hil
    have hxb := hrb x (List.mem_of_getElem? hx)
    have hs : (r.take (i + 1)).sum = (r.take i).sum + x := by rw [List.take_add_one, hx]; simp
    have hs1 : v - (r.take (i + 1)).sum = v - (r.take i).sum - x := by omega
    conv => whnf
    repeat' (first|((refine PickE.map i hx (by omega) ?_);conv=>whnf)|((refine PickR.map b hr (by omega) ?_);conv=>whnf)|((with_reducible refine Split.of_true ?_);conv=>whnf)|((with_reducible refine Split.of_false ?_);conv=>whnf)|((with_reducible refine Split.neg ?_))|((with_reducible refine Split.is_true ?_ ?_);decide;conv=>whnf)|((with_reducible refine Split.is_false ?_ ?_);decide;conv=>whnf)|((with_reducible refine Split.eqz (fun _=>?_) (fun _=>?_))<;>conv=>whnf)|((with_reducible refine Split.dec (fun _=>?_) (fun _=>?_))<;>conv=>whnf)|((with_reducible refine Need.mk ?_ ?_);(first|omega|rfl|decide|(refine ⟨?_, ?_⟩<;>simp<;>omega)|(simp;omega));conv=>whnf)|((with_reducible refine Wr.inr ?_ ?_);(first|omega|(simp;omega));conv=>whnf)|(exfalso;first|omega|contradiction))
    exact Again.au (i + 1) (by omega) (by omega) (by refine ⟨?_, ?_, rfl⟩<;>(repeat' (first|exact True.intro|exact rfl|refine ⟨?_, ?_⟩|(intro h;cases h;done)|(intro h;exact h)|exact map_snoc|(refine own_congr ?_;simp;done)|(refine int_congr ?_;(first|omega|(simp;omega)))|(simp;done)|((first|refine own_congr ?_|refine int_congr ?_|skip);simp [hs1];done)|((first|refine own_congr ?_|refine int_congr ?_);simp [hs1];omega)|(show @Eq (List Go.Vm.D) _ [];simp [hs1];done)|(simp [D.cells, hs1];done)));done)
  · have hie : i = r.length := by omega
    subst hie
    rw [List.take_length]
    conv => whnf
    repeat' (first|((with_reducible refine Split.of_true ?_);conv=>whnf)|((with_reducible refine Split.of_false ?_);conv=>whnf)|((with_reducible refine Split.neg ?_))|((with_reducible refine Split.is_true ?_ ?_);decide;conv=>whnf)|((with_reducible refine Split.is_false ?_ ?_);decide;conv=>whnf)|((with_reducible refine Split.eqz (fun _=>?_) (fun _=>?_))<;>conv=>whnf)|((with_reducible refine Split.dec (fun _=>?_) (fun _=>?_))<;>conv=>whnf)|((with_reducible refine Need.mk ?_ ?_);(first|omega|rfl|decide|(refine ⟨?_, ?_⟩<;>simp<;>omega)|(simp;omega));conv=>whnf)|((with_reducible refine Wr.inr ?_ ?_);(first|omega|(simp;omega));conv=>whnf)|(exfalso;first|omega|contradiction))
    exact ⟨⟨[], (by refine ⟨?_, ?_, rfl⟩<;>(repeat' (first|exact True.intro|exact rfl|refine ⟨?_, ?_⟩|(intro h;cases h;done)|(intro h;exact h)|exact map_snoc|(refine own_congr ?_;simp;done)|(refine int_congr ?_;(first|omega|(simp;omega)))|(simp;done)));done)⟩, rfl⟩
theorem xv_free {y : Yd} {l : List Bt} {vol room : List Int} {fl : List (List Int)} (h : TkOk y l vol room fl) {p : Nat} (hp : p < y.pits.length) :
    EvX Try.prog 124 [.ptr 1000 0, .d (iD p)] (tkX y l vol room fl) (.d (iD (freeF room fl p))) (tkX y l vol room fl) := by
  have hl1 : (room.map iD).length = room.length := List.length_map _
  have e1 := h.hr
  have e2 := h.hf
  have e3 := h.hL
  have e4 := h.hP
  obtain ⟨v, hv⟩ := some_of_lt (show p < room.length by omega)
  have hvb := h.rb v (List.mem_of_getElem? hv)
  have hl2 : (fl.map fun r => some (r.map iD)).length = fl.length := List.length_map _
  have h0 : v - ((fl.take 0).map fun r => r.getD p 0).sum = v := by simp
  have el : freeF room fl p = v - (fl.map fun r => r.getD p 0).sum := by simp [freeF, List.getD, hv]
  rw [el]
  unfold tkX
  refine evx_of_awp tysOk mixed (fn := Try.f124) Try.func124 rfl rfl rfl ?_
  conv => whnf
  repeat' (first|((refine PickE.map p hv (by omega) ?_);conv=>whnf)|((with_reducible refine Split.of_true ?_);conv=>whnf)|((with_reducible refine Split.of_false ?_);conv=>whnf)|((with_reducible refine Split.neg ?_))|((with_reducible refine Split.is_true ?_ ?_);decide;conv=>whnf)|((with_reducible refine Split.is_false ?_ ?_);decide;conv=>whnf)|((with_reducible refine Split.eqz (fun _=>?_) (fun _=>?_))<;>conv=>whnf)|((with_reducible refine Split.dec (fun _=>?_) (fun _=>?_))<;>conv=>whnf)|((with_reducible refine Need.mk ?_ ?_);(first|omega|rfl|decide|(refine ⟨?_, ?_⟩<;>simp<;>omega)|(simp;omega));conv=>whnf)|((with_reducible refine Wr.inr ?_ ?_);(first|omega|(simp;omega));conv=>whnf)|(exfalso;first|omega|contradiction))
  refine LoopK.o2 (fun i : Nat => i ≤ fl.length) (fun i => [(5, .d (iD (v - ((fl.take i).map fun r => r.getD p 0).sum))), (20, .d (iD i))]) (fun _ => []) (fun i => fl.length - i) 0 (by simp) (by refine ⟨?_, ?_, rfl⟩<;>(repeat' (first|exact True.intro|exact rfl|refine ⟨?_, ?_⟩|(intro h;cases h;done)|(intro h;exact h)|exact map_snoc|(refine own_congr ?_;simp;done)|(refine int_congr ?_;(first|omega|(simp;omega)))|(simp;done)|((first|refine own_congr ?_|refine int_congr ?_|skip);simp [h0];done)|((first|refine own_congr ?_|refine int_congr ?_);simp [h0];omega)|(show @Eq (List Go.Vm.D) _ [];simp [h0];done)|(simp [D.cells, h0];done)));done) ?_
  rintro i hi
  dsimp only at hi ⊢
  have hcell : ∀ r ∈ fl, 0 ≤ r.getD p 0 ∧ r.getD p 0 ≤ 100000000000000000 := fun r hr => by
    rw [List.getD]
    cases hx : r[p]? with
    | none => simp
    | some x => exact okFl_cell h.fb hr (List.mem_of_getElem? hx)
  have hsb := sum_bd (M := 100000000000000000) (r := (fl.take i).map fun r => r.getD p 0) fun x hx => by
    obtain ⟨r, hr, rfl⟩ := List.mem_map.1 hx
    exact hcell r (List.mem_of_mem_take hr)
  have hti : ((fl.take i).map fun r => r.getD p 0).length = i := by rw [List.length_map, List.length_take]; omega
  rw [hti] at hsb
  by_cases hil : i < fl.length
  · obtain ⟨r, hr⟩ := some_of_lt hil
    have hrm := List.mem_of_getElem? hr
    have hrl := h.row r hrm
    have hl3 : (r.map iD).length = r.length := List.length_map _
    obtain ⟨x, hx⟩ := some_of_lt (show p < r.length by omega)
    have hxb := okFl_cell h.fb hrm (List.mem_of_getElem? hx)
    have hxd : r.getD p 0 = x := by simp [List.getD, hx]
    have hs : ((fl.take (i + 1)).map fun r => r.getD p 0).sum = ((fl.take i).map fun r => r.getD p 0).sum + x := by rw [List.take_add_one, hr]; simp [List.getD, hx]
    have hs1 : v - ((fl.take (i + 1)).map fun r => r.getD p 0).sum = v - ((fl.take i).map fun r => r.getD p 0).sum - x := by omega
    conv => whnf
    repeat' (first|((refine PickE.map p hx (by omega) ?_);conv=>whnf)|((refine PickR.map i hr (by omega) ?_);conv=>whnf)|((with_reducible refine Split.of_true ?_);conv=>whnf)|((with_reducible refine Split.of_false ?_);conv=>whnf)|((with_reducible refine Split.neg ?_))|((with_reducible refine Split.is_true ?_ ?_);decide;conv=>whnf)|((with_reducible refine Split.is_false ?_ ?_);decide;conv=>whnf)|((with_reducible refine Split.eqz (fun _=>?_) (fun _=>?_))<;>conv=>whnf)|((with_reducible refine Split.dec (fun _=>?_) (fun _=>?_))<;>conv=>whnf)|((with_reducible refine Need.mk ?_ ?_);(first|omega|rfl|decide|(refine ⟨?_, ?_⟩<;>simp<;>omega)|(simp;omega));conv=>whnf)|((with_reducible refine Wr.inr ?_ ?_);(first|omega|(simp;omega));conv=>whnf)|(exfalso;first|omega|contradiction))
    exact Again.au (i + 1) (by omega) (by omega) (by refine ⟨?_, ?_, rfl⟩<;>(repeat' (first|exact True.intro|exact rfl|refine ⟨?_, ?_⟩|(intro h;cases h;done)|(intro h;exact h)|exact map_snoc|(refine own_congr ?_;simp;done)|(refine int_congr ?_;(first|omega|(simp;omega)))|(simp;done)|((first|refine own_congr ?_|refine int_congr ?_|skip);simp [hs1];done)|((first|refine own_congr ?_|refine int_congr ?_);simp [hs1];omega)|(show @Eq (List Go.Vm.D) _ [];simp [hs1];done)|(simp [D.cells, hs1];done)));done)
  · have hie : i = fl.length := by omega
    subst hie
    rw [List.take_length]
    conv => whnf
    repeat' (first|((with_reducible refine Split.of_true ?_);conv=>whnf)|((with_reducible refine Split.of_false ?_);conv=>whnf)|((with_reducible refine Split.neg ?_))|((with_reducible refine Split.is_true ?_ ?_);decide;conv=>whnf)|((with_reducible refine Split.is_false ?_ ?_);decide;conv=>whnf)|((with_reducible refine Split.eqz (fun _=>?_) (fun _=>?_))<;>conv=>whnf)|((with_reducible refine Split.dec (fun _=>?_) (fun _=>?_))<;>conv=>whnf)|((with_reducible refine Need.mk ?_ ?_);(first|omega|rfl|decide|(refine ⟨?_, ?_⟩<;>simp<;>omega)|(simp;omega));conv=>whnf)|((with_reducible refine Wr.inr ?_ ?_);(first|omega|(simp;omega));conv=>whnf)|(exfalso;first|omega|contradiction))
    exact ⟨⟨[], (by refine ⟨?_, ?_, rfl⟩<;>(repeat' (first|exact True.intro|exact rfl|refine ⟨?_, ?_⟩|(intro h;cases h;done)|(intro h;exact h)|exact map_snoc|(refine own_congr ?_;simp;done)|(refine int_congr ?_;(first|omega|(simp;omega)))|(simp;done)));done)⟩, rfl⟩
/-- Pit p accepts batch b. -/
def accF (y : Yd) (l : List Bt) (p b : Nat) : Bool := match y.pits[p]?, l[b]? with
  | some q, some x => accB q x.cls
  | _, _ => false
theorem xv_accepts {y : Yd} {l : List Bt} {vol room : List Int} {fl : List (List Int)} (h : TkOk y l vol room fl) {p b : Nat} (hp : p < y.pits.length) (hb : b < l.length) :
    EvX Try.prog 116 [.ptr 1000 0, .d (iD p), .d (iD b)] (tkX y l vol room fl) (.d (.bool (accF y l p b))) (tkX y l vol room fl) := by
  have e3 := h.hL
  have e4 := h.hP
  obtain ⟨q, hq⟩ := some_of_lt hp
  obtain ⟨x, hx⟩ := some_of_lt hb
  have hl1 : (y.pits.map ptD).length = y.pits.length := List.length_map _
  have hl2 : (l.map btD).length = l.length := List.length_map _
  have hc := ev_ContainsInt q.cls x.cls (h.cl q (List.mem_of_getElem? hq))
  have el : accF y l p b = q.cls.any fun c => c == x.cls := by simp [accF, hq, hx, accB]
  rw [el]
  unfold tkX
  refine evx_of_awp tysOk mixed (fn := Try.f116) Try.func116 rfl rfl rfl ?_
  conv => whnf
  repeat' (first|((refine PickE.map b hx (by omega) ?_);conv=>whnf)|((refine PickE.map p hq (by omega) ?_);conv=>whnf)|((with_reducible refine Split.of_true ?_);conv=>whnf)|((with_reducible refine Split.of_false ?_);conv=>whnf)|((with_reducible refine Split.neg ?_))|((with_reducible refine Split.is_true ?_ ?_);decide;conv=>whnf)|((with_reducible refine Split.is_false ?_ ?_);decide;conv=>whnf)|((with_reducible refine Split.eqz (fun _=>?_) (fun _=>?_))<;>conv=>whnf)|((with_reducible refine Split.dec (fun _=>?_) (fun _=>?_))<;>conv=>whnf)|((with_reducible refine Need.mk ?_ ?_);(first|omega|rfl|decide|(refine ⟨?_, ?_⟩<;>simp<;>omega)|(simp;omega));conv=>whnf)|((with_reducible refine Wr.inr ?_ ?_);(first|omega|(simp;omega));conv=>whnf)|((with_reducible refine AltK.l ?_);(conv=>whnf);(first|(refine CallK.mk _ (hc) ?_));conv=>whnf)|(exfalso;first|omega|contradiction))
  exact ⟨⟨[], (by refine ⟨?_, ?_, rfl⟩<;>(repeat' (first|exact True.intro|exact rfl|refine ⟨?_, ?_⟩|(intro h;cases h;done)|(intro h;exact h)|exact map_snoc|(refine own_congr ?_;simp;done)|(refine int_congr ?_;(first|omega|(simp;omega)))|(simp;done)));done)⟩, rfl⟩
end Go.Proofs.Try
end

section
namespace Go.Proofs.Try
open Go Go.Vm
set_option maxRecDepth 20000
set_option maxHeartbeats 8000000
/-! The task: reached. -/
def nD (n : Nat) : D := iD (n : Int)
def mapD (m : List (Nat × Int)) : List (D × D) := m.map fun e => (iD (e.1 : Int), iD e.2)
theorem keyEq_nat (a b : Nat) : keyEq (iD (a : Int)) (iD (b : Int)) = decide (a = b) := by
  show (decide (IntKind.i64 = IntKind.i64) && decide ((a : Int) = b)) = decide (a = b)
  by_cases h : a = b
  · subst h; simp
  · rw [decide_eq_false h, decide_eq_false (show ¬ (a : Int) = b by omega), Bool.and_false]
theorem mget_mapD (k : Nat) : ∀ m, mget (mapD m) (iD (k : Int)) = if hasN m k = true then some (iD (getZ m k)) else none
  | [] => rfl
  | (a, v) :: r => by
    have ih := mget_mapD k r
    simp only [mapD, List.map_cons] at ih ⊢
    rw [mget, ih, keyEq_nat]
    by_cases h : k = a
    · subst h; simp [hasN, getZ]
    · have h' : ¬ a = k := fun e => h e.symm
      have e1 : hasN ((a, v) :: r) k = hasN r k := by simp [hasN, h']
      have e2 : getZ ((a, v) :: r) k = getZ r k := by simp [getZ, h']
      rw [e1, e2]; simp [h]
theorem mput_mapD {m : List (Nat × Int)} {k : Nat} {v : Int} (h : hasN m k = false) : mput (mapD m) (iD (k : Int)) (iD v) = mapD (m ++ [(k, v)]) := by
  rw [mput_new (by rw [mget_mapD, h]; rfl)]
  simp [mapD]
theorem range_snoc {α : Type} (f : α → Nat → α) (s : α) (i : Nat) : (List.range (i + 1)).foldl f s = f ((List.range i).foldl f s) i := by
  rw [List.range_succ, List.foldl_append]; rfl
theorem st1_lt {vol : List Int} {fl : List (List Int)} : ∀ i, ∀ e ∈ ((List.range i).foldl (st1 vol fl) ⟨[], [], []⟩).bs, e.1 < i
  | 0 => by simp
  | i + 1 => by
    have ih := st1_lt (vol := vol) (fl := fl) i
    rw [range_snoc]
    intro e he
    rw [st1] at he
    split at he
    · rcases List.mem_append.1 he with h | h
      · exact Nat.lt_succ_of_lt (ih e h)
      · rw [List.mem_singleton.1 h]; exact Nat.lt_succ_self i
    · exact Nat.lt_succ_of_lt (ih e he)
theorem st1_new {vol : List Int} {fl : List (List Int)} (i : Nat) : hasN ((List.range i).foldl (st1 vol fl) ⟨[], [], []⟩).bs i = false := by
  rw [hasN, List.any_eq_false]
  intro e he
  have := st1_lt i e he
  simp; omega
theorem st1_len {vol : List Int} {fl : List (List Int)} : ∀ i, ((List.range i).foldl (st1 vol fl) ⟨[], [], []⟩).q.length ≤ i ∧ ((List.range i).foldl (st1 vol fl) ⟨[], [], []⟩).ps = []
  | 0 => by simp
  | i + 1 => by
    have ih := st1_len (vol := vol) (fl := fl) i
    rw [range_snoc]
    rw [st1]
    split
    · simp only [List.length_append, List.length_singleton]; exact ⟨by omega, ih.2⟩
    · exact ⟨by omega, ih.2⟩
theorem rs0_lt {vol : List Int} {fl : List (List Int)} {L : Nat} : ∀ b ∈ (rs0 L vol fl).q, b < L := by
  have : ∀ i, ∀ b ∈ ((List.range i).foldl (st1 vol fl) ⟨[], [], []⟩).q, b < i := by
    intro i
    induction i with
    | zero => simp
    | succ i ih =>
      rw [range_snoc, st1]
      split
      · intro b hb
        rcases List.mem_append.1 hb with h | h
        · exact Nat.lt_succ_of_lt (ih b h)
        · rw [List.mem_singleton.1 h]; exact Nat.lt_succ_self i
      · exact fun b hb => Nat.lt_succ_of_lt (ih b hb)
  exact this L
/-- The shape of the queue: a slice of the call's own, a part of one, or nothing that is left. -/
inductive Qs where
  | own
  | view (pre : List Nat)
  | fin (e : List Nat)
def qV (q : List Nat) : Qs → AV
  | .own => .own 200 1 (q.map nD).length
  | .view pre => .view 200 1 pre.length (pre.length + q.length)
  | .fin _ => .d (.sl 1 [])
def qB (q : List Nat) : Qs → List (Nat × Bx)
  | .own => [(200, .row 3 1 (q.map nD) false)]
  | .view pre => [(200, .row 3 1 ((pre ++ q).map nD) false)]
  | .fin e => [(200, .row 3 1 (e.map nD) true)]
def qN (q : List Nat) : Qs → Nat
  | .own => q.length
  | .view pre => pre.length + q.length
  | .fin _ => 0
/-- What was added to those that wait. -/
def qI (L k : Nat) (q q' : List Nat) : Prop := ∃ t, q' = q ++ t ∧ t.length ≤ k ∧ ∀ x ∈ t, x < L
theorem qI.rfl' {L : Nat} {q : List Nat} : qI L 0 q q := ⟨[], by simp, Nat.le_refl _, by simp⟩
theorem qI.mono {L k k' : Nat} {q q' : List Nat} (h : qI L k q q') (hk : k ≤ k') : qI L k' q q' := by
  obtain ⟨t, h1, h2, h3⟩ := h
  exact ⟨t, h1, by omega, h3⟩
theorem qI.trans {L k k' : Nat} {q q' q'' : List Nat} (h : qI L k q q') (h' : qI L k' q' q'') : qI L (k + k') q q'' := by
  obtain ⟨t, rfl, h2, h3⟩ := h
  obtain ⟨t', rfl, h2', h3'⟩ := h'
  refine ⟨t ++ t', by simp, by rw [List.length_append]; omega, fun x hx => ?_⟩
  rcases List.mem_append.1 hx with h | h
  · exact h3 x h
  · exact h3' x h
theorem stO_q {L : Nat} {fl : List (List Int)} {p : Nat} {s : Rs} : ∀ i, i ≤ L → qI L i s.q ((List.range i).foldl (stO fl p) s).q ∧ ((List.range i).foldl (stO fl p) s).ps = s.ps
  | 0, _ => ⟨qI.rfl', rfl⟩
  | i + 1, hi => by
    obtain ⟨ih, ih2⟩ := stO_q (L := L) (fl := fl) (p := p) (s := s) i (by omega)
    rw [range_snoc, stO]
    split
    · exact ⟨ih.mono (by omega), ih2⟩
    split
    · exact ⟨ih.trans ⟨[i], rfl, Nat.le_refl _, by simp; omega⟩, ih2⟩
    · exact ⟨ih.mono (by omega), ih2⟩
theorem stP_q {acc : Nat → Nat → Bool} {L : Nat} {fl : List (List Int)} {b : Nat} {s : Rs} (hL : L ≤ 12) : ∀ i, qI L (12 * i) s.q ((List.range i).foldl (stP acc L fl b) s).q
  | 0 => qI.rfl'
  | i + 1 => by
    have ih := stP_q (acc := acc) (fl := fl) (b := b) (s := s) hL i
    rw [range_snoc, stP]
    split
    · exact ih.mono (by omega)
    split
    · exact ih.mono (by omega)
    · exact qI.mono (k := 12 * i + L) (ih.trans (stO_q L (Nat.le_refl _)).1) (by omega)
end Go.Proofs.Try
end
