import Derived.Test.YticnipadahihhaaTvD
namespace Go.Proofs.Try
open Go Go.Vm
set_option maxRecDepth 20000
set_option maxHeartbeats 8000000
/-! The library's stable sort at marks: blocks; the whole. -/
section
variable {α : Type} (key : α → Int)
/-- The first k blocks of s elements, each sorted. -/
def bs (s : Nat) : Nat → List α → List α
  | 0, _ => []
  | k + 1, Z => srt key (Z.take s) ++ bs s k (Z.drop s)
theorem bs_snoc {s : Nat} : ∀ {k : Nat} {Z : List α}, bs key s (k + 1) Z = bs key s k Z ++ srt key ((Z.drop (s * k)).take s)
  | 0, Z => by simp [bs]
  | k + 1, Z => by
    have ih := bs_snoc (s := s) (k := k) (Z := Z.drop s)
    rw [bs, ih, bs, List.drop_drop, List.append_assoc, show s + s * k = s * (k + 1) by rw [Nat.mul_add, Nat.mul_one, Nat.add_comm]]
theorem bs_nil {s : Nat} : ∀ {k : Nat}, bs key s k ([] : List α) = []
  | 0 => rfl
  | k + 1 => by simp [bs, bs_nil (k := k), srt]
theorem bs_len {s : Nat} : ∀ {k : Nat} {Z : List α}, s * k ≤ Z.length → (bs key s k Z).length = s * k
  | 0, Z, _ => by simp [bs]
  | k + 1, Z, h => by
    rw [Nat.mul_add, Nat.mul_one] at h ⊢
    rw [bs, List.length_append, srt_len, List.length_take, bs_len (by rw [List.length_drop]; omega)]
    omega
theorem bs_all {s : Nat} : ∀ {k : Nat} {Z : List α}, Z.length ≤ s * k → (bs key s k Z).length = Z.length
  | 0, Z, h => by simp [bs]; omega
  | k + 1, Z, h => by
    rw [Nat.mul_add, Nat.mul_one] at h
    rw [bs, List.length_append, srt_len, List.length_take, bs_all (by rw [List.length_drop]; omega), List.length_drop]
    omega
theorem bs_more {s k : Nat} {Z : List α} (h : Z.length ≤ s * k) : ∀ d, bs key s (k + d) Z = bs key s k Z
  | 0 => rfl
  | d + 1 => by
    rw [← Nat.add_assoc, bs_snoc, bs_more h d, List.drop_eq_nil_of_le (by rw [Nat.mul_add]; omega)]
    simp [srt]
theorem bs_same {s k j : Nat} {Z : List α} (h1 : Z.length ≤ s * k) (h2 : Z.length ≤ s * j) : bs key s k Z = bs key s j Z := by
  rcases Nat.le_total k j with h | h
  · obtain ⟨d, rfl⟩ := Nat.exists_eq_add_of_le h
    exact (bs_more key h1 d).symm
  · obtain ⟨d, rfl⟩ := Nat.exists_eq_add_of_le h
    exact bs_more key h2 d
theorem bs_one {s k : Nat} {Z : List α} (h : Z.length ≤ s) : bs key s (k + 1) Z = srt key Z := by
  rw [bs, List.take_of_length_le h, List.drop_eq_nil_of_le h, bs_nil, List.append_nil]
theorem bs_two {s k : Nat} {Z : List α} : bs key s (k + 2) Z = srt key (Z.take s) ++ srt key ((Z.drop s).take s) ++ bs key s k (Z.drop (s + s)) := by
  rw [bs, bs, List.drop_drop, List.append_assoc]
theorem srt_two {s : Nat} {Z : List α} : mrg key (srt key (Z.take s)) (srt key ((Z.drop s).take s)) = srt key (Z.take (s + s)) := by
  rw [← srt_app, ← List.take_add]
end
theorem inM.sub {l m : List Mk} (h : inM l) (hs : ∀ x ∈ m, x ∈ l) : inM m := fun x hx => h x (hs x hx)
theorem inM.srt {l : List Mk} (h : inM l) : inM (Try.srt kM l) := h.sub fun _ hx => (srt_perm kM).mem_iff.1 hx
theorem le_mul_self {s n : Nat} (h : 1 ≤ s) : n ≤ s * n := by
  have := Nat.mul_le_mul_right n h
  omega
theorem xv_stableM (Z : List Mk) (hm : inM Z) (hn : Z.length ≤ 100000) :
    EvX Try.prog 25 [.own 1000 2 Z.length, .d (.int .i64 Z.length), .d (.fn 14 [])] [(1000, .row 41 2 (Z.map mD) false)] (.tup []) [(1000, .row 41 2 ((srt kM Z).map mD) false)] := by
  have hsub : ∀ i, inM (Z.drop i) := fun i => hm.sub fun _ h => List.mem_of_mem_drop h
  have hsub2 : ∀ i j, inM ((Z.drop i).take j) := fun i j => hm.sub fun _ h => List.mem_of_mem_drop (List.mem_of_mem_take h)
  refine evx_of_awp tysOk mixed (fn := Try.f25) Try.func25 rfl rfl rfl ?_
  conv => whnf
  repeat' (first
    | ((with_reducible refine Split.of_true ?_); conv => whnf)
    | ((with_reducible refine Split.of_false ?_); conv => whnf)
    | ((with_reducible refine Split.neg ?_))
    | ((with_reducible refine Split.is_true ?_ ?_); decide; conv => whnf)
    | ((with_reducible refine Split.is_false ?_ ?_); decide; conv => whnf)
    | ((with_reducible refine Split.nez (fun _ => ?_) (fun _ => ?_)) <;> conv => whnf)
    | ((with_reducible refine Split.eqz (fun _ => ?_) (fun _ => ?_)) <;> conv => whnf)
    | ((with_reducible refine Split.and ?_))
    | ((with_reducible refine Split.or ?_))
    | ((with_reducible refine Split.streq (fun _ => ?_) (fun _ => ?_)) <;> conv => whnf)
    | ((with_reducible refine Split.dec (fun _ => ?_) (fun _ => ?_)) <;> conv => whnf)
    | ((with_reducible refine Split.mk (fun _ => ?_) (fun _ => ?_)) <;> conv => whnf)
    | ((with_reducible refine NilK.mk (fun _ => ?_) ?_) <;> conv => whnf)
    | ((with_reducible refine AltK.l ?_); (conv => whnf); (with_reducible refine Need.mk ?_ ?_); (first | omega | (refine ⟨?_, ?_⟩ <;> simp <;> omega) | (simp; omega)); conv => whnf)
    | ((with_reducible refine Need.mk ?_ ?_); (first | omega | rfl | decide | (refine ⟨?_, ?_⟩ <;> simp <;> omega) | (simp; omega)); conv => whnf)
    | ((with_reducible refine Wr.quo ?_ ?_ ?_ ?_); omega; omega; omega; conv => whnf)
    | ((with_reducible refine Wr.inr ?_ ?_); (first | omega | (simp; omega)); conv => whnf)
    | ((with_reducible refine Wr.inu ?_ ?_); omega; conv => whnf)
    | (exfalso; first | omega | contradiction))
  refine LoopK.o3 (fun k : Nat => 20 * k ≤ Z.length) (fun k => [(7, .d (.int .i64 (20 * k : Nat))), (8, .d (.int .i64 (20 * k + 20 : Nat)))]) (fun k => [(1000, .row 41 2 ((bs kM 20 k Z ++ Z.drop (20 * k)).map mD) false)]) (fun k => Z.length - 20 * k) 0 (Nat.zero_le _) (by refine ⟨?_, ?_, rfl⟩ <;> (repeat' (first | exact True.intro | exact rfl | refine ⟨?_, ?_⟩ | (intro h; cases h; done) | (intro h; exact h) | exact map_snoc | (refine own_congr ?_; simp; done) | (refine int_congr ?_; (first | omega | (simp; omega))) | (simp; done) | (refine view_congr ?_ ?_ <;> (first | omega | (simp; done) | (simp; omega))) | ((first | refine own_congr ?_ | refine int_congr ?_ | skip); simp [bs]; done) | ((first | refine own_congr ?_ | refine int_congr ?_); simp [bs]; omega) | (show @Eq (List Go.Vm.D) _ []; simp [bs]; done) | (simp [D.cells, bs]; done))); done) ?_
  rintro k hk
  dsimp only at hk ⊢
  have hbl := bs_len kM hk
  have hdl : (Z.drop (20 * k)).length = Z.length - 20 * k := List.length_drop
  by_cases hkl : 20 * k + 20 ≤ Z.length
  · have h1 : Z.drop (20 * k) = (Z.drop (20 * k)).take 20 ++ Z.drop (20 * (k + 1)) := by rw [show 20 * (k + 1) = 20 * k + 20 by omega, ← List.drop_drop, List.take_append_drop]
    have hl1 : ((Z.drop (20 * k)).take 20).length = 20 := by rw [List.length_take]; omega
    have hl2 : (Z.drop (20 * (k + 1))).length = Z.length - (20 * k + 20) := by rw [List.length_drop]; omega
    have w := xv_insM (bs kM 20 k Z) ((Z.drop (20 * k)).take 20) (Z.drop (20 * (k + 1))) Z.length ((20 * k : Nat) : Int) ((20 * k + 20 : Nat) : Int) (hsub2 _ _) (by omega) (by omega) (by omega) hn
    rw [List.append_assoc, ← h1, ← bs_snoc] at w
    conv => whnf
    repeat' (first
      | ((with_reducible refine Split.of_true ?_); conv => whnf)
      | ((with_reducible refine Split.of_false ?_); conv => whnf)
      | ((with_reducible refine Split.neg ?_))
      | ((with_reducible refine Split.is_true ?_ ?_); decide; conv => whnf)
      | ((with_reducible refine Split.is_false ?_ ?_); decide; conv => whnf)
      | ((with_reducible refine Split.nez (fun _ => ?_) (fun _ => ?_)) <;> conv => whnf)
      | ((with_reducible refine Split.eqz (fun _ => ?_) (fun _ => ?_)) <;> conv => whnf)
      | ((with_reducible refine Split.and ?_))
      | ((with_reducible refine Split.or ?_))
      | ((with_reducible refine Split.streq (fun _ => ?_) (fun _ => ?_)) <;> conv => whnf)
      | ((with_reducible refine Split.dec (fun _ => ?_) (fun _ => ?_)) <;> conv => whnf)
      | ((with_reducible refine Split.mk (fun _ => ?_) (fun _ => ?_)) <;> conv => whnf)
      | ((with_reducible refine NilK.mk (fun _ => ?_) ?_) <;> conv => whnf)
      | ((with_reducible refine AltK.l ?_); (conv => whnf); (with_reducible refine Need.mk ?_ ?_); (first | omega | (refine ⟨?_, ?_⟩ <;> simp <;> omega) | (simp; omega)); conv => whnf)
      | ((with_reducible refine Need.mk ?_ ?_); (first | omega | rfl | decide | (refine ⟨?_, ?_⟩ <;> simp <;> omega) | (simp; omega)); conv => whnf)
      | ((with_reducible refine Wr.quo ?_ ?_ ?_ ?_); omega; omega; omega; conv => whnf)
      | ((with_reducible refine Wr.inr ?_ ?_); (first | omega | (simp; omega)); conv => whnf)
      | ((with_reducible refine Wr.inu ?_ ?_); omega; conv => whnf)
      | ((with_reducible refine AltK.r ?_); (conv => whnf); (first | (refine CallX.mk _ _ (w) rfl ?_)); conv => whnf)
      | (exfalso; first | omega | contradiction))
    all_goals first
      | (exfalso; omega)
      | skip
    exact Again.av (k + 1) (by omega) (by omega) (by refine ⟨?_, ?_, rfl⟩ <;> (repeat' (first | exact True.intro | exact rfl | refine ⟨?_, ?_⟩ | (intro h; cases h; done) | (intro h; exact h) | exact map_snoc | (refine own_congr ?_; simp; done) | (refine int_congr ?_; (first | omega | (simp; omega))) | (simp; done) | (refine view_congr ?_ ?_ <;> (first | omega | (simp; done) | (simp; omega))) | ((first | refine own_congr ?_ | refine int_congr ?_ | skip); simp [D.cells]; done) | ((first | refine own_congr ?_ | refine int_congr ?_); simp [D.cells]; omega) | (show @Eq (List Go.Vm.D) _ []; simp [D.cells]; done) | (simp [D.cells, D.cells]; done))); done)
  · have w := xv_insM (bs kM 20 k Z) (Z.drop (20 * k)) [] Z.length ((20 * k : Nat) : Int) (Z.length : Int) (hsub _) (by omega) (by omega) (by rw [List.length_nil]; omega) hn
    have h2 : bs kM 20 k Z ++ srt kM (Z.drop (20 * k)) = bs kM 20 (Z.length + 1) Z := by
      rw [bs_same kM (k := Z.length + 1) (j := k + 1) (by omega) (by omega), bs_snoc, List.take_of_length_le (by omega)]
    rw [List.append_nil, List.append_nil, h2] at w
    conv => whnf
    repeat' (first
      | ((with_reducible refine Split.of_true ?_); conv => whnf)
      | ((with_reducible refine Split.of_false ?_); conv => whnf)
      | ((with_reducible refine Split.neg ?_))
      | ((with_reducible refine Split.is_true ?_ ?_); decide; conv => whnf)
      | ((with_reducible refine Split.is_false ?_ ?_); decide; conv => whnf)
      | ((with_reducible refine Split.nez (fun _ => ?_) (fun _ => ?_)) <;> conv => whnf)
      | ((with_reducible refine Split.eqz (fun _ => ?_) (fun _ => ?_)) <;> conv => whnf)
      | ((with_reducible refine Split.and ?_))
      | ((with_reducible refine Split.or ?_))
      | ((with_reducible refine Split.streq (fun _ => ?_) (fun _ => ?_)) <;> conv => whnf)
      | ((with_reducible refine Split.dec (fun _ => ?_) (fun _ => ?_)) <;> conv => whnf)
      | ((with_reducible refine Split.mk (fun _ => ?_) (fun _ => ?_)) <;> conv => whnf)
      | ((with_reducible refine NilK.mk (fun _ => ?_) ?_) <;> conv => whnf)
      | ((with_reducible refine AltK.l ?_); (conv => whnf); (with_reducible refine Need.mk ?_ ?_); (first | omega | (refine ⟨?_, ?_⟩ <;> simp <;> omega) | (simp; omega)); conv => whnf)
      | ((with_reducible refine Need.mk ?_ ?_); (first | omega | rfl | decide | (refine ⟨?_, ?_⟩ <;> simp <;> omega) | (simp; omega)); conv => whnf)
      | ((with_reducible refine Wr.quo ?_ ?_ ?_ ?_); omega; omega; omega; conv => whnf)
      | ((with_reducible refine Wr.inr ?_ ?_); (first | omega | (simp; omega)); conv => whnf)
      | ((with_reducible refine Wr.inu ?_ ?_); omega; conv => whnf)
      | ((with_reducible refine AltK.r ?_); (conv => whnf); (first | (refine CallX.mk _ _ (w) rfl ?_)); conv => whnf)
      | (exfalso; first | omega | contradiction))
    all_goals first
      | (exfalso; omega)
      | skip
    refine LoopK.o3 (fun s : Nat => 1 ≤ s ∧ s ≤ 2 * Z.length + 20) (fun s => [(6, .d (.int .i64 s))]) (fun s => [(1000, .row 41 2 ((bs kM s (Z.length + 1) Z).map mD) false)]) (fun s => Z.length - s) 20 ⟨by omega, by omega⟩ (by refine ⟨?_, ?_, rfl⟩ <;> (repeat' (first | exact True.intro | exact rfl | refine ⟨?_, ?_⟩ | (intro h; cases h; done) | (intro h; exact h) | exact map_snoc | (refine own_congr ?_; simp; done) | (refine int_congr ?_; (first | omega | (simp; omega))) | (simp; done) | (refine view_congr ?_ ?_ <;> (first | omega | (simp; done) | (simp; omega))) | ((first | refine own_congr ?_ | refine int_congr ?_ | skip); simp [D.cells]; done) | ((first | refine own_congr ?_ | refine int_congr ?_); simp [D.cells]; omega) | (show @Eq (List Go.Vm.D) _ []; simp [D.cells]; done) | (simp [D.cells, D.cells]; done))); done) ?_
    rintro s ⟨hs1, hs2⟩
    dsimp only at hs1 hs2 ⊢
    by_cases hsn : s < Z.length
    · conv => whnf
      repeat' (first
        | ((with_reducible refine Split.of_true ?_); conv => whnf)
        | ((with_reducible refine Split.of_false ?_); conv => whnf)
        | ((with_reducible refine Split.neg ?_))
        | ((with_reducible refine Split.is_true ?_ ?_); decide; conv => whnf)
        | ((with_reducible refine Split.is_false ?_ ?_); decide; conv => whnf)
        | ((with_reducible refine Split.nez (fun _ => ?_) (fun _ => ?_)) <;> conv => whnf)
        | ((with_reducible refine Split.eqz (fun _ => ?_) (fun _ => ?_)) <;> conv => whnf)
        | ((with_reducible refine Split.and ?_))
        | ((with_reducible refine Split.or ?_))
        | ((with_reducible refine Split.streq (fun _ => ?_) (fun _ => ?_)) <;> conv => whnf)
        | ((with_reducible refine Split.dec (fun _ => ?_) (fun _ => ?_)) <;> conv => whnf)
        | ((with_reducible refine Split.mk (fun _ => ?_) (fun _ => ?_)) <;> conv => whnf)
        | ((with_reducible refine NilK.mk (fun _ => ?_) ?_) <;> conv => whnf)
        | ((with_reducible refine AltK.l ?_); (conv => whnf); (with_reducible refine Need.mk ?_ ?_); (first | omega | (refine ⟨?_, ?_⟩ <;> simp <;> omega) | (simp; omega)); conv => whnf)
        | ((with_reducible refine Need.mk ?_ ?_); (first | omega | rfl | decide | (refine ⟨?_, ?_⟩ <;> simp <;> omega) | (simp; omega)); conv => whnf)
        | ((with_reducible refine Wr.quo ?_ ?_ ?_ ?_); omega; omega; omega; conv => whnf)
        | ((with_reducible refine Wr.inr ?_ ?_); (first | omega | (simp; omega)); conv => whnf)
        | ((with_reducible refine Wr.inu ?_ ?_); omega; conv => whnf)
        | (exfalso; first | omega | contradiction))
      refine LoopK.o3 (fun j : Nat => (s + s) * j ≤ Z.length) (fun j => [(7, .d (.int .i64 ((s + s) * j : Nat))), (8, .d (.int .i64 ((s + s) * j + (s + s) : Nat)))]) (fun j => [(1000, .row 41 2 ((bs kM (s + s) j Z ++ bs kM s (Z.length + 1) (Z.drop ((s + s) * j))).map mD) false)]) (fun j => Z.length - (s + s) * j) 0 (by omega) (by refine ⟨?_, ?_, rfl⟩ <;> (repeat' (first | exact True.intro | exact rfl | refine ⟨?_, ?_⟩ | (intro h; cases h; done) | (intro h; exact h) | exact map_snoc | (refine own_congr ?_; simp; done) | (refine int_congr ?_; (first | omega | (simp; omega))) | (simp; done) | (refine view_congr ?_ ?_ <;> (first | omega | (simp; done) | (simp; omega))) | ((first | refine own_congr ?_ | refine int_congr ?_ | skip); simp [bs]; done) | ((first | refine own_congr ?_ | refine int_congr ?_); simp [bs]; omega) | (show @Eq (List Go.Vm.D) _ []; simp [bs]; done) | (simp [D.cells, bs]; done))); done) ?_
      rintro j hj
      dsimp only at hj ⊢
      have hbl := bs_len kM hj
      have hq1 : (s + s) * (j + 1) = (s + s) * j + (s + s) := Nat.mul_succ _ _
      have hsn1 := bs_snoc kM (s := s + s) (k := j) (Z := Z)
      have hdr : ∀ d, Z.drop ((s + s) * j + d) = (Z.drop ((s + s) * j)).drop d := fun d => List.drop_drop.symm
      have hsb := hsub ((s + s) * j)
      have hdl : (Z.drop ((s + s) * j)).length = Z.length - (s + s) * j := List.length_drop
      by_cases hb : (s + s) * j + (s + s) ≤ Z.length
      · have e1 := bs_two kM (s := s) (k := Z.length - 1) (Z := Z.drop ((s + s) * j))
        rw [show Z.length - 1 + 2 = Z.length + 1 by omega] at e1
        have e2 : bs kM s (Z.length - 1) ((Z.drop ((s + s) * j)).drop (s + s)) = bs kM s (Z.length + 1) (Z.drop ((s + s) * (j + 1))) := by
          rw [hq1, hdr]
          refine bs_same kM ?_ ?_
          · have := le_mul_self (s := s) (n := Z.length - 1) hs1
            rw [List.length_drop, hdl]; omega
          · have := le_mul_self (s := s) (n := Z.length + 1) hs1
            rw [List.length_drop, hdl]; omega
        rw [e2] at e1
        have e3 := srt_two kM (s := s) (Z := Z.drop ((s + s) * j))
        have n1 : (srt kM ((Z.drop ((s + s) * j)).take s)).length = s := by rw [srt_len, List.length_take]; omega
        have n2 : (srt kM (((Z.drop ((s + s) * j)).drop s).take s)).length = s := by rw [srt_len, List.length_take, List.length_drop]; omega
        have n3 : (bs kM s (Z.length + 1) (Z.drop ((s + s) * (j + 1)))).length = Z.length - ((s + s) * j + (s + s)) := by
          rw [bs_all kM (by have := le_mul_self (s := s) (n := Z.length + 1) hs1; rw [List.length_drop]; omega), List.length_drop, hq1]
        have w := xv_sym (s + s) (bs kM (s + s) j Z) (srt kM ((Z.drop ((s + s) * j)).take s)) (srt kM (((Z.drop ((s + s) * j)).drop s).take s)) (bs kM s (Z.length + 1) (Z.drop ((s + s) * (j + 1)))) Z.length (((s + s) * j : Nat) : Int) ((((s + s) * j : Nat) : Int) + (s : Int)) (((s + s) * j + (s + s) : Nat) : Int)
          (by omega) (by omega) (by omega) (hsb.sub fun _ h => List.mem_of_mem_take ((srt_perm kM).mem_iff.1 h)) (hsb.sub fun _ h => List.mem_of_mem_drop (List.mem_of_mem_take ((srt_perm kM).mem_iff.1 h))) (srt_asc kM) (srt_asc kM) (by omega) (by omega) (by omega) (by omega) hn
        rw [e3, ← hsn1, List.append_assoc (bs kM (s + s) j Z), List.append_assoc (bs kM (s + s) j Z), ← e1] at w
        generalize hq : (s + s) * j = q at *
        conv => whnf
        repeat' (first
          | ((with_reducible refine Split.of_true ?_); conv => whnf)
          | ((with_reducible refine Split.of_false ?_); conv => whnf)
          | ((with_reducible refine Split.neg ?_))
          | ((with_reducible refine Split.is_true ?_ ?_); decide; conv => whnf)
          | ((with_reducible refine Split.is_false ?_ ?_); decide; conv => whnf)
          | ((with_reducible refine Split.nez (fun _ => ?_) (fun _ => ?_)) <;> conv => whnf)
          | ((with_reducible refine Split.eqz (fun _ => ?_) (fun _ => ?_)) <;> conv => whnf)
          | ((with_reducible refine Split.and ?_))
          | ((with_reducible refine Split.or ?_))
          | ((with_reducible refine Split.streq (fun _ => ?_) (fun _ => ?_)) <;> conv => whnf)
          | ((with_reducible refine Split.dec (fun _ => ?_) (fun _ => ?_)) <;> conv => whnf)
          | ((with_reducible refine Split.mk (fun _ => ?_) (fun _ => ?_)) <;> conv => whnf)
          | ((with_reducible refine NilK.mk (fun _ => ?_) ?_) <;> conv => whnf)
          | ((with_reducible refine AltK.l ?_); (conv => whnf); (with_reducible refine Need.mk ?_ ?_); (first | omega | (refine ⟨?_, ?_⟩ <;> simp <;> omega) | (simp; omega)); conv => whnf)
          | ((with_reducible refine Need.mk ?_ ?_); (first | omega | rfl | decide | (refine ⟨?_, ?_⟩ <;> simp <;> omega) | (simp; omega)); conv => whnf)
          | ((with_reducible refine Wr.quo ?_ ?_ ?_ ?_); omega; omega; omega; conv => whnf)
          | ((with_reducible refine Wr.inr ?_ ?_); (first | omega | (simp; omega)); conv => whnf)
          | ((with_reducible refine Wr.inu ?_ ?_); omega; conv => whnf)
          | ((with_reducible refine AltK.r ?_); (conv => whnf); (first | (refine CallX.mk _ _ (w) rfl ?_)); conv => whnf)
          | (exfalso; first | omega | contradiction))
        all_goals first
          | (exfalso; omega)
          | skip
        refine Again.av (j + 1) (by rw [hq1]; exact hb) (by rw [hq1]; omega) ?_
        rw [hq1]
        exact (by refine ⟨?_, ?_, rfl⟩ <;> (repeat' (first | exact True.intro | exact rfl | refine ⟨?_, ?_⟩ | (intro h; cases h; done) | (intro h; exact h) | exact map_snoc | (refine own_congr ?_; simp; done) | (refine int_congr ?_; (first | omega | (simp; omega))) | (simp; done) | (refine view_congr ?_ ?_ <;> (first | omega | (simp; done) | (simp; omega))) | ((first | refine own_congr ?_ | refine int_congr ?_ | skip); simp [D.cells]; done) | ((first | refine own_congr ?_ | refine int_congr ?_); simp [D.cells]; omega) | (show @Eq (List Go.Vm.D) _ []; simp [D.cells]; done) | (simp [D.cells, D.cells]; done))); done)
      · have hfin : bs kM (s + s) j Z ++ srt kM (Z.drop ((s + s) * j)) = bs kM (s + s) (Z.length + 1) Z := by
          rw [bs_same kM (s := s + s) (k := Z.length + 1) (j := j + 1) (by have := le_mul_self (s := s + s) (n := Z.length + 1) (by omega); omega) (by rw [hq1]; omega), bs_snoc, List.take_of_length_le (by omega)]
        by_cases hm2 : (s + s) * j + s < Z.length
        · have e1 := bs_two kM (s := s) (k := Z.length - 1) (Z := Z.drop ((s + s) * j))
          rw [show Z.length - 1 + 2 = Z.length + 1 by omega, show (Z.drop ((s + s) * j)).drop (s + s) = [] from List.drop_eq_nil_of_le (by omega), bs_nil, List.append_nil] at e1
          have e3 := srt_two kM (s := s) (Z := Z.drop ((s + s) * j))
          rw [show (Z.drop ((s + s) * j)).take (s + s) = Z.drop ((s + s) * j) from List.take_of_length_le (by omega)] at e3
          have n1 : (srt kM ((Z.drop ((s + s) * j)).take s)).length = s := by rw [srt_len, List.length_take]; omega
          have n2 : (srt kM (((Z.drop ((s + s) * j)).drop s).take s)).length = Z.length - ((s + s) * j + s) := by rw [srt_len, List.length_take, List.length_drop]; omega
          have w := xv_sym Z.length (bs kM (s + s) j Z) (srt kM ((Z.drop ((s + s) * j)).take s)) (srt kM (((Z.drop ((s + s) * j)).drop s).take s)) [] Z.length (((s + s) * j : Nat) : Int) ((((s + s) * j : Nat) : Int) + (s : Int)) (Z.length : Int)
            (by omega) (by omega) (by omega) (hsb.sub fun _ h => List.mem_of_mem_take ((srt_perm kM).mem_iff.1 h)) (hsb.sub fun _ h => List.mem_of_mem_drop (List.mem_of_mem_take ((srt_perm kM).mem_iff.1 h))) (srt_asc kM) (srt_asc kM) (by omega) (by omega) (by omega) (by rw [List.length_nil]; omega) hn
          rw [e3, List.append_nil, List.append_nil, hfin, List.append_assoc (bs kM (s + s) j Z), ← e1] at w
          generalize hq : (s + s) * j = q at *
          conv => whnf
          repeat' (first
            | ((with_reducible refine Split.of_true ?_); conv => whnf)
            | ((with_reducible refine Split.of_false ?_); conv => whnf)
            | ((with_reducible refine Split.neg ?_))
            | ((with_reducible refine Split.is_true ?_ ?_); decide; conv => whnf)
            | ((with_reducible refine Split.is_false ?_ ?_); decide; conv => whnf)
            | ((with_reducible refine Split.nez (fun _ => ?_) (fun _ => ?_)) <;> conv => whnf)
            | ((with_reducible refine Split.eqz (fun _ => ?_) (fun _ => ?_)) <;> conv => whnf)
            | ((with_reducible refine Split.and ?_))
            | ((with_reducible refine Split.or ?_))
            | ((with_reducible refine Split.streq (fun _ => ?_) (fun _ => ?_)) <;> conv => whnf)
            | ((with_reducible refine Split.dec (fun _ => ?_) (fun _ => ?_)) <;> conv => whnf)
            | ((with_reducible refine Split.mk (fun _ => ?_) (fun _ => ?_)) <;> conv => whnf)
            | ((with_reducible refine NilK.mk (fun _ => ?_) ?_) <;> conv => whnf)
            | ((with_reducible refine AltK.l ?_); (conv => whnf); (with_reducible refine Need.mk ?_ ?_); (first | omega | (refine ⟨?_, ?_⟩ <;> simp <;> omega) | (simp; omega)); conv => whnf)
            | ((with_reducible refine Need.mk ?_ ?_); (first | omega | rfl | decide | (refine ⟨?_, ?_⟩ <;> simp <;> omega) | (simp; omega)); conv => whnf)
            | ((with_reducible refine Wr.quo ?_ ?_ ?_ ?_); omega; omega; omega; conv => whnf)
            | ((with_reducible refine Wr.inr ?_ ?_); (first | omega | (simp; omega)); conv => whnf)
            | ((with_reducible refine Wr.inu ?_ ?_); omega; conv => whnf)
            | ((with_reducible refine AltK.r ?_); (conv => whnf); (first | (refine CallX.mk _ _ (w) rfl ?_)); conv => whnf)
            | (exfalso; first | omega | contradiction))
          all_goals first
            | (exfalso; omega)
            | skip
          exact Again.av (s + s) ⟨by omega, by omega⟩ (by omega) (by refine ⟨?_, ?_, rfl⟩ <;> (repeat' (first | exact True.intro | exact rfl | refine ⟨?_, ?_⟩ | (intro h; cases h; done) | (intro h; exact h) | exact map_snoc | (refine own_congr ?_; simp; done) | (refine int_congr ?_; (first | omega | (simp; omega))) | (simp; done) | (refine view_congr ?_ ?_ <;> (first | omega | (simp; done) | (simp; omega))) | ((first | refine own_congr ?_ | refine int_congr ?_ | skip); simp [D.cells]; done) | ((first | refine own_congr ?_ | refine int_congr ?_); simp [D.cells]; omega) | (show @Eq (List Go.Vm.D) _ []; simp [D.cells]; done) | (simp [D.cells, D.cells]; done))); done)
        · rw [bs_one kM (show (Z.drop ((s + s) * j)).length ≤ s by omega), hfin]
          generalize hq : (s + s) * j = q at *
          conv => whnf
          repeat' (first
            | ((with_reducible refine Split.of_true ?_); conv => whnf)
            | ((with_reducible refine Split.of_false ?_); conv => whnf)
            | ((with_reducible refine Split.neg ?_))
            | ((with_reducible refine Split.is_true ?_ ?_); decide; conv => whnf)
            | ((with_reducible refine Split.is_false ?_ ?_); decide; conv => whnf)
            | ((with_reducible refine Split.nez (fun _ => ?_) (fun _ => ?_)) <;> conv => whnf)
            | ((with_reducible refine Split.eqz (fun _ => ?_) (fun _ => ?_)) <;> conv => whnf)
            | ((with_reducible refine Split.and ?_))
            | ((with_reducible refine Split.or ?_))
            | ((with_reducible refine Split.streq (fun _ => ?_) (fun _ => ?_)) <;> conv => whnf)
            | ((with_reducible refine Split.dec (fun _ => ?_) (fun _ => ?_)) <;> conv => whnf)
            | ((with_reducible refine Split.mk (fun _ => ?_) (fun _ => ?_)) <;> conv => whnf)
            | ((with_reducible refine NilK.mk (fun _ => ?_) ?_) <;> conv => whnf)
            | ((with_reducible refine AltK.l ?_); (conv => whnf); (with_reducible refine Need.mk ?_ ?_); (first | omega | (refine ⟨?_, ?_⟩ <;> simp <;> omega) | (simp; omega)); conv => whnf)
            | ((with_reducible refine Need.mk ?_ ?_); (first | omega | rfl | decide | (refine ⟨?_, ?_⟩ <;> simp <;> omega) | (simp; omega)); conv => whnf)
            | ((with_reducible refine Wr.quo ?_ ?_ ?_ ?_); omega; omega; omega; conv => whnf)
            | ((with_reducible refine Wr.inr ?_ ?_); (first | omega | (simp; omega)); conv => whnf)
            | ((with_reducible refine Wr.inu ?_ ?_); omega; conv => whnf)
            | (exfalso; first | omega | contradiction))
          all_goals first
            | (exfalso; omega)
            | skip
          exact Again.av (s + s) ⟨by omega, by omega⟩ (by omega) (by refine ⟨?_, ?_, rfl⟩ <;> (repeat' (first | exact True.intro | exact rfl | refine ⟨?_, ?_⟩ | (intro h; cases h; done) | (intro h; exact h) | exact map_snoc | (refine own_congr ?_; simp; done) | (refine int_congr ?_; (first | omega | (simp; omega))) | (simp; done) | (refine view_congr ?_ ?_ <;> (first | omega | (simp; done) | (simp; omega))) | ((first | refine own_congr ?_ | refine int_congr ?_ | skip); simp [D.cells]; done) | ((first | refine own_congr ?_ | refine int_congr ?_); simp [D.cells]; omega) | (show @Eq (List Go.Vm.D) _ []; simp [D.cells]; done) | (simp [D.cells, D.cells]; done))); done)
    · rw [bs_one kM (s := s) (k := Z.length) (Z := Z) (by omega)]
      conv => whnf
      repeat' (first
        | ((with_reducible refine Split.of_true ?_); conv => whnf)
        | ((with_reducible refine Split.of_false ?_); conv => whnf)
        | ((with_reducible refine Split.neg ?_))
        | ((with_reducible refine Split.is_true ?_ ?_); decide; conv => whnf)
        | ((with_reducible refine Split.is_false ?_ ?_); decide; conv => whnf)
        | ((with_reducible refine Split.nez (fun _ => ?_) (fun _ => ?_)) <;> conv => whnf)
        | ((with_reducible refine Split.eqz (fun _ => ?_) (fun _ => ?_)) <;> conv => whnf)
        | ((with_reducible refine Split.and ?_))
        | ((with_reducible refine Split.or ?_))
        | ((with_reducible refine Split.streq (fun _ => ?_) (fun _ => ?_)) <;> conv => whnf)
        | ((with_reducible refine Split.dec (fun _ => ?_) (fun _ => ?_)) <;> conv => whnf)
        | ((with_reducible refine Split.mk (fun _ => ?_) (fun _ => ?_)) <;> conv => whnf)
        | ((with_reducible refine NilK.mk (fun _ => ?_) ?_) <;> conv => whnf)
        | ((with_reducible refine AltK.l ?_); (conv => whnf); (with_reducible refine Need.mk ?_ ?_); (first | omega | (refine ⟨?_, ?_⟩ <;> simp <;> omega) | (simp; omega)); conv => whnf)
        | ((with_reducible refine Need.mk ?_ ?_); (first | omega | rfl | decide | (refine ⟨?_, ?_⟩ <;> simp <;> omega) | (simp; omega)); conv => whnf)
        | ((with_reducible refine Wr.quo ?_ ?_ ?_ ?_); omega; omega; omega; conv => whnf)
        | ((with_reducible refine Wr.inr ?_ ?_); (first | omega | (simp; omega)); conv => whnf)
        | ((with_reducible refine Wr.inu ?_ ?_); omega; conv => whnf)
        | (exfalso; first | omega | contradiction))
      all_goals first
        | (exfalso; omega)
        | skip
      exact ⟨⟨[], (by refine ⟨?_, ?_, rfl⟩ <;> (repeat' (first | exact True.intro | exact rfl | refine ⟨?_, ?_⟩ | (intro h; cases h; done) | (intro h; exact h) | exact map_snoc | (refine own_congr ?_; simp; done) | (refine int_congr ?_; (first | omega | (simp; omega))) | (simp; done) | (refine view_congr ?_ ?_ <;> (first | omega | (simp; done) | (simp; omega))))); done)⟩, rfl⟩
theorem xv_sortStableM (Z : List Mk) (hm : inM Z) (hn : Z.length ≤ 100000) :
    EvX Try.prog 13 [.own 1000 2 (Z.map mD).length, .d (.fn 14 [])] [(1000, .row 41 2 (Z.map mD) false)] (.tup []) [(1000, .row 41 2 ((srt kM Z).map mD) false)] := by
  have hI := xv_stableM Z hm hn
  have hsl : (Z.map mD).length = Z.length := List.length_map _
  rw [← hsl] at hI
  refine evx_of_awp tysOk mixed (fn := Try.f13) Try.func13 rfl rfl rfl ?_
  conv => whnf
  repeat' (first
    | ((with_reducible refine Split.of_true ?_); conv => whnf)
    | ((with_reducible refine Split.of_false ?_); conv => whnf)
    | ((with_reducible refine Split.neg ?_))
    | ((with_reducible refine Split.is_true ?_ ?_); decide; conv => whnf)
    | ((with_reducible refine Split.is_false ?_ ?_); decide; conv => whnf)
    | ((with_reducible refine Split.nez (fun _ => ?_) (fun _ => ?_)) <;> conv => whnf)
    | ((with_reducible refine Split.eqz (fun _ => ?_) (fun _ => ?_)) <;> conv => whnf)
    | ((with_reducible refine Split.and ?_))
    | ((with_reducible refine Split.or ?_))
    | ((with_reducible refine Split.streq (fun _ => ?_) (fun _ => ?_)) <;> conv => whnf)
    | ((with_reducible refine Split.dec (fun _ => ?_) (fun _ => ?_)) <;> conv => whnf)
    | ((with_reducible refine Split.mk (fun _ => ?_) (fun _ => ?_)) <;> conv => whnf)
    | ((with_reducible refine NilK.mk (fun _ => ?_) ?_) <;> conv => whnf)
    | ((with_reducible refine AltK.l ?_); (conv => whnf); (with_reducible refine Need.mk ?_ ?_); (first | omega | (refine ⟨?_, ?_⟩ <;> simp <;> omega) | (simp; omega)); conv => whnf)
    | ((with_reducible refine Need.mk ?_ ?_); (first | omega | rfl | decide | (refine ⟨?_, ?_⟩ <;> simp <;> omega) | (simp; omega)); conv => whnf)
    | ((with_reducible refine Wr.quo ?_ ?_ ?_ ?_); omega; omega; omega; conv => whnf)
    | ((with_reducible refine Wr.inr ?_ ?_); (first | omega | (simp; omega)); conv => whnf)
    | ((with_reducible refine Wr.inu ?_ ?_); omega; conv => whnf)
    | ((with_reducible refine AltK.r ?_); (conv => whnf); (first | (refine CallX.mk _ _ (hI) rfl ?_)); conv => whnf)
    | (exfalso; first | omega | contradiction))
  exact ⟨⟨[], (by refine ⟨?_, ?_, rfl⟩ <;> (repeat' (first | exact True.intro | exact rfl | refine ⟨?_, ?_⟩ | (intro h; cases h; done) | (intro h; exact h) | exact map_snoc | (refine own_congr ?_; simp; done) | (refine int_congr ?_; (first | omega | (simp; omega))) | (simp; done) | (refine view_congr ?_ ?_ <;> (first | omega | (simp; done) | (simp; omega))))); done)⟩, rfl⟩
end Go.Proofs.Try
