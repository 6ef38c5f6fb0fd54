/- Texts TxP TxG TxH TxI TxJ TxK TwF TxL, joined; what is not needed is left out. -/
import Derived.Test.YthkeafdkhojlfaaDoorMgI
import Derived.Lib.AtoiTie
import Derived.Lib.ItoaLen
import Derived.Lib.SplitLaws
import Derived.Test.YthkeafdkhojlfaaDoorProg
import Derived.Shelf.LaysM
import Derived.Shelf.LaysC
import Derived.Shelf.Lays
import Derived.Shelf.Strings.Builder1
import Derived.Test.YthkeafdkhojlfaaDoorMgH
import Derived.Test.YthkeafdkhojlfaaDoorMca
section
/- Plain facts on texts: numerals, digits, a text divided at a byte. No program is in sight. -/
namespace Go.Plain
open Go Go.Lib
theorem dig_abs (m : Int) : (if m.tmod 10 < 0 - m.tmod 10 then 0 - m.tmod 10 else m.tmod 10) = ((m.natAbs % 10 : Nat) : Int) := by
 rcases Int.le_total 0 m with h | h
 ·obtain ⟨k, rfl⟩ := Int.eq_ofNat_of_zero_le h
  have : (k : Int).tmod 10 = ((k % 10 : Nat) : Int) := by
   rw [Int.tmod_eq_emod_of_nonneg (by omega)]; omega
  rw [this]
  simp only [Int.natAbs_natCast]
  split <;> omega
 ·obtain ⟨k, hk⟩ := Int.eq_ofNat_of_zero_le (a := -m) (by omega)
  obtain rfl : m = -(k : Int) := by omega
  have : (-(k : Int)).tmod 10 = -((k % 10 : Nat) : Int) := by
   rw [Int.neg_tmod, Int.tmod_eq_emod_of_nonneg (by omega)]; omega
  rw [this]
  simp only [Int.natAbs_neg, Int.natAbs_natCast]
  split <;> omega
theorem div_abs (m : Int) : (m.tdiv 10).natAbs = m.natAbs / 10 := by
 rw [Int.natAbs_tdiv]
 rfl
theorem dec_last {u : Nat} (h : u < 10) (s : List UInt8) : decDigits u ++ s = UInt8.ofNat (48 + u % 10) :: s := by
 rw [decDigits_one h, Nat.mod_eq_of_lt h]; rfl
theorem dec_more {u : Nat} (h : ¬ u < 10) (s : List UInt8) : decDigits u ++ s = decDigits (u / 10) ++ (UInt8.ofNat (48 + u % 10) :: s) := by
 rw [decDigits, dif_neg h, List.append_assoc]; rfl
def DecAt (n m : Int) (s : List UInt8) : Prop := (s = [] ∧ m = n) ∨ (s ≠ [] ∧ (if m = 0 then s else decDigits m.natAbs ++ s) = decDigits n.natAbs)
theorem DecAt.step {n m : Int} {s : List UInt8} (h : DecAt n m s) (h0 : s = [] ∨ m ≠ 0) : DecAt n (m.tdiv 10) (UInt8.ofNat (48 + m.natAbs % 10) :: s) := by
 have key : decDigits m.natAbs ++ s = decDigits n.natAbs := by
  rcases h with ⟨rfl, rfl⟩ | ⟨h1, h2⟩
  ·simp
  ·have hm : m ≠ 0 := h0.resolve_left h1
   rwa [if_neg hm] at h2
 refine .inr ⟨by simp, ?_⟩
 have hd := div_abs m
 by_cases hu : m.natAbs < 10
 ·have : m.tdiv 10 = 0 := by omega
  rw [if_pos this, ← dec_last hu]; exact key
 ·have : m.tdiv 10 ≠ 0 := by omega
  rw [if_neg this, hd, ← dec_more hu]; exact key
theorem DecAt.len {n m : Int} {s : List UInt8} (h : DecAt n m s) : s.length ≤ (decDigits n.natAbs).length := by
 rcases h with ⟨rfl, -⟩ | ⟨-, h⟩
 ·simp
 ·rw [← h]; split <;> simp
theorem DecAt.fin {n : Int} {s : List UInt8} (h : DecAt n 0 s) (hs : s ≠ []) : s = decDigits n.natAbs := by
 rcases h with ⟨h1, -⟩ | ⟨-, h⟩
 ·exact absurd h1 hs
 ·simpa using h
theorem itoa_sign (n : Int) : Lib.itoa n = (if n < 0 then [45] else []) ++ decDigits n.natAbs := by
 unfold Lib.itoa
 split
 ·rfl
 ·have : n.toNat = n.natAbs := by omega
  rw [this]; rfl
theorem nDig_le : ∀ (k u : Nat), u < 10 ^ (k + 1) → nDigits u ≤ k + 1
 | 0, u, h => by rw [nDigits_small (by simpa using h)]; omega
 | k + 1, u, h => by
  by_cases hu : u < 10
  ·rw [nDigits_small hu]; omega
  ·rw [nDigits_big hu]
   have := nDig_le k (u / 10) (by rw [Nat.pow_succ] at h; omega)
   omega
theorem dig_len {k u : Nat} (h : u < 10 ^ (k + 1)) : (decDigits u).length ≤ k + 1 := by rw [decDigits_length]; exact nDig_le k u h
theorem u8_ofNat {n : Nat} (h : n < 256) : (UInt8.ofNat n).toNat = n := by simp [Nat.mod_eq_of_lt h]
theorem decFrom_snoc : ∀ (l : List UInt8) (acc x : Nat) (b : UInt8) (d : Nat), decFrom acc l = some x → digitVal b = some d → decFrom acc (l ++ [b]) = some (x * 10 + d)
 | [], acc, x, b, d, h, hb => by
  cases h
  simp [decFrom, hb]
 | a :: l, acc, x, b, d, h, hb => by
  simp only [decFrom, List.cons_append] at h ⊢
  split at h
  ·exact decFrom_snoc l _ x b d h hb
  ·cases h
theorem digitVal_dig {d : Nat} (h : d < 10) : digitVal (UInt8.ofNat (48 + d)) = some d := by
 unfold digitVal
 rw [u8_ofNat (by omega), if_pos (by omega)]
 congr 1
 omega
theorem decFrom_dig (u : Nat) : decFrom 0 (decDigits u) = some u := by
 induction u using Nat.strongRecOn with
 | ind u ih =>
  by_cases h : u < 10
  ·rw [decDigits_one h]
   simp only [decFrom, digitVal_dig h, Nat.zero_mul, Nat.zero_add]
  ·rw [decDigits, dif_neg h, decFrom_snoc _ _ _ _ _ (ih (u / 10) (by omega)) (digitVal_dig (by omega : u % 10 < 10))]
   congr 1
   omega
theorem dig_ne (u : Nat) : decDigits u ≠ [] := by
 intro h
 have := decFrom_dig u
 by_cases hu : u < 10
 ·rw [decDigits_one hu] at h; cases h
 ·rw [decDigits, dif_neg hu] at h; simp at h
theorem dig_mem : ∀ (u : Nat) (b : UInt8), b ∈ decDigits u → 48 ≤ b.toNat ∧ b.toNat ≤ 57 := by
 intro u
 induction u using Nat.strongRecOn with
 | ind u ih =>
  intro b hb
  by_cases h : u < 10
  ·rw [decDigits_one h, List.mem_singleton] at hb
   rw [hb, u8_ofNat (by omega)]; omega
  ·rw [decDigits, dif_neg h, List.mem_append, List.mem_singleton] at hb
   rcases hb with hb | hb
   ·exact ih (u / 10) (by omega) b hb
   ·rw [hb, u8_ofNat (by omega)]; omega
theorem decNat_dig (u : Nat) : decNat (decDigits u) = some u := by
 have := dig_ne u
 unfold decNat
 rw [if_neg (by simpa using this)]
 exact decFrom_dig u
theorem atoi_dig (u : Nat) : atoi (decDigits u) = some (u : Int) := by
 cases h : decDigits u with
 | nil => exact absurd h (dig_ne u)
 | cons b r =>
  have hb := dig_mem u b (by rw [h]; exact List.mem_cons_self)
  have h1 : ¬ b = 45 := fun e => by rw [e] at hb; revert hb; decide
  have h2 : ¬ b = 43 := fun e => by rw [e] at hb; revert hb; decide
  simp only [atoi, beq_iff_eq, h1, h2, if_false]
  rw [← h, decNat_dig]
  rfl
theorem atoi_itoa (n : Int) (h : n.natAbs < 1000000000000000) : atoiAll (itoa n) = .ok n := by
 have hl : (itoa n).length ≤ 18 := by
  unfold itoa
  have := dig_len (k := 14) (u := n.natAbs) (by simpa using h)
  split
  ·simp; omega
  ·have e : n.toNat = n.natAbs := by omega
   rw [e]; omega
 rw [atoiAll_short _ hl]
 have : atoi (itoa n) = some n := by
  unfold itoa
  split
  ·rename_i hn
   simp only [atoi, beq_self_eq_true, if_true, decNat_dig]
   simp only [Option.map_some]
   congr 1
   omega
  ·rename_i hn
   rw [atoi_dig]
   congr 1
   omega
 rw [this]
 rfl
def spl (c : UInt8) : List UInt8 → List (List UInt8)
 | [] => [[]]
 | b :: r => if b = c then [] :: spl c r else match spl c r with
  | [] => [[b]]
  | x :: xs => (b :: x) :: xs
theorem splitK_one (c : UInt8) : ∀ s : List UInt8, splitK [c] 0 (s.count c) s = spl c s
 | [] => rfl
 | b :: r => by
  have ih := splitK_one c r
  by_cases h : b = c
  ·subst h
   have e : index (b :: r) [b] = 0 := by simp [index]
   rw [List.count_cons_self, splitK]
   simp only [e]
   rw [spl, if_pos rfl, ← ih]
   rfl
  ·have hcb : ¬ c = b := fun e => h e.symm
   rw [List.count_cons_of_ne h, spl, if_neg h, ← ih]
   cases hk : r.count c with
   | zero => rfl
   | succ k =>
    rw [splitK, splitK]
    have e : index (b :: r) [c] = if index r [c] == -1 then -1 else index r [c] + 1 := by
     simp [index, hcb]
    have hp : ¬ index r [c] = -1 := by
     intro h0
     have hc : 0 < count r [c] := by rw [count_one]; omega
     unfold count at hc
     rw [countFrom, if_pos (by simp [h0])] at hc
     omega
    have hge := index_ge r [c]
    rw [e]
    simp only [beq_iff_eq, hp, if_false]
    have e2 : ¬ (index r [c] + 1 = -1) := by omega
    rw [if_neg e2]
    have e3 : (index r [c] + 1).toNat = (index r [c]).toNat + 1 := by omega
    rw [e3]
    simp
theorem spl_app (c : UInt8) : ∀ (a b : List UInt8), c ∉ a → spl c (a ++ c :: b) = a :: spl c b
 | [], b, _ => by rw [List.nil_append, spl, if_pos rfl]
 | x :: a, b, h => by
  have h1 : x ≠ c := fun e => h (by rw [e]; exact List.mem_cons_self)
  have h2 : c ∉ a := fun e => h (List.mem_cons_of_mem _ e)
  rw [List.cons_append, spl, if_neg h1, spl_app c a b h2]
theorem spl_no (c : UInt8) : ∀ a : List UInt8, c ∉ a → spl c a = [a]
 | [], _ => rfl
 | x :: a, h => by
  have h1 : x ≠ c := fun e => h (by rw [e]; exact List.mem_cons_self)
  have h2 : c ∉ a := fun e => h (List.mem_cons_of_mem _ e)
  rw [spl, if_neg h1, spl_no c a h2]
end Go.Plain
end

section
namespace Go.Proofs.Tryd
open Go Go.Vm Go.Plain
set_option maxRecDepth 20000
set_option maxHeartbeats 4000000
theorem ba_ext {a b : ByteArray} (h : a.data.toList = b.data.toList) : a = b := ByteArray.ext (Array.toList_inj.1 h)
theorem ba_size (s : ByteArray) : s.size = s.data.toList.length := by rw [Array.length_toList]; rfl
theorem itoaB_list (n : Int) : (itoaB n).data.toList = Lib.itoa n := rfl
theorem u8_dig (m : Int) : IntKind.u8.wrap (48 + (if m.tmod 10 < 0 - m.tmod 10 then 0 - m.tmod 10 else m.tmod 10)) = ((48 + m.natAbs % 10 : Nat) : Int) := by
 rw [dig_abs, IntKind.wrap_u8]
 omega
theorem ev_decimal (n : Int) (hn : -9223372036854775800 ≤ n ∧ n ≤ 9223372036854775800) : Ev Tryd.prog 22 [.int .i64 n] (.str (itoaB n)) := by
 have hb := itoaB_size n (by omega)
 have hlen : (Lib.decDigits n.natAbs).length ≤ 21 := by
  rw [ba_size, itoaB_list, itoa_sign] at hb
  simp only [List.length_append] at hb
  omega
 have z0 : (⟨#[]⟩ : ByteArray).size = 0 := rfl
 have z1 : (⟨#[45]⟩ : ByteArray).size = 1 := rfl
 have fin : ∀ (sg : ByteArray), sg.data.toList = (if n < 0 then [45] else []) → ∀ s : ByteArray, s.data.toList = Lib.decDigits n.natAbs → sg ++ s = itoaB n := by
  intro sg h1 s h2
  refine ba_ext ?_
  rw [ba_app, h1, h2, itoaB_list, itoa_sign]
 refine ev_of_awp tysOk mixed (fn := Tryd.f22) Tryd.func22 rfl rfl rfl ?_
 conv => whnf
 repeat' (first|((with_reducible first|refine Split.of_true ?_|refine Split.of_false ?_);conv=>whnf)|(with_reducible refine Split.neg ?_)|((with_reducible refine Split.is_true ?_ ?_);decide;conv=>whnf)|((with_reducible refine Split.is_false ?_ ?_);decide;conv=>whnf)|((with_reducible refine Split.nez (fun _=>?_) (fun _=>?_))<;>conv=>whnf)|((with_reducible refine Split.eqz (fun _=>?_) (fun _=>?_))<;>conv=>whnf)|(with_reducible refine Split.and ?_)|(with_reducible refine Split.or ?_)|((with_reducible refine Split.streq (fun _=>?_) (fun _=>?_))<;>conv=>whnf)|((with_reducible refine Split.dec (fun _=>?_) (fun _=>?_))<;>conv=>whnf)|((with_reducible refine Split.mk (fun _=>?_) (fun _=>?_))<;>conv=>whnf)|((with_reducible refine NilK.mk (fun _=>?_) ?_)<;>conv=>whnf)|((with_reducible refine AltK.l ?_);(conv=>whnf);(with_reducible refine Need.mk ?_ ?_);(first|omega|(refine ⟨?_,?_⟩<;>simp<;>omega)|(simp;omega));conv=>whnf)|((with_reducible refine Need.mk ?_ ?_);(first|omega|rfl|decide|(refine ⟨?_,?_⟩<;>simp<;>omega)|(simp;omega));conv=>whnf)|((with_reducible refine Wr.quo ?_ ?_ ?_ ?_);omega;omega;omega;conv=>whnf)|((with_reducible refine Wr.inr ?_ ?_);(first|omega|(simp;omega));conv=>whnf)|((with_reducible refine Wr.inu ?_ ?_);omega;conv=>whnf)|(exfalso;first|omega|contradiction)|fail)
 all_goals refine LoopK.o2 (fun r : Int × ByteArray => DecAt n r.1 r.2.data.toList ∧ r.1.natAbs ≤ n.natAbs) (fun r => [(0, .d (.int .i64 r.1)), (4, .d (.str r.2))]) (fun _ => []) (fun r => r.1.natAbs + if r.2.data.toList = [] then 1 else 0) (n, ⟨#[]⟩) ⟨.inl ⟨rfl, rfl⟩, Nat.le_refl _⟩ (by refine ⟨?_, ?_, rfl⟩<;>(repeat' (first|exact True.intro|exact rfl|(refine ⟨?_,?_⟩)|(intro h;cases h;done)|(intro h;exact h)|exact map_snoc|(refine own_congr ?_;simp;done)|(refine int_congr ?_;(first|omega|(simp;omega)))|(simp;done)|fail));done) ?_
 all_goals
  rintro ⟨m, s⟩ ⟨hI, hm⟩
  have hm : m.natAbs ≤ n.natAbs := hm
  have hl := hI.len
  have hl : s.size ≤ 21 := by rw [ba_size]; exact Nat.le_trans hl hlen
  have ht : -10 < (m, s).1.tmod 10 ∧ (m, s).1.tmod 10 < 10 := by
   show -10 < m.tmod 10 ∧ m.tmod 10 < 10
   have h1 : (m.tmod 10).natAbs = m.natAbs % 10 := Int.natAbs_tmod m 10
   omega
  have hx : maxI ((m, s).1.tmod 10) (0 - (m, s).1.tmod 10) = ((m.natAbs % 10 : Nat) : Int) := dig_abs m
  have hu : IntKind.u8.wrap (48 + maxI ((m, s).1.tmod 10) (0 - (m, s).1.tmod 10)) = ((48 + m.natAbs % 10 : Nat) : Int) := u8_dig m
  have hz : (⟨#[UInt8.ofNat ((48 + m.natAbs % 10 : Nat) : Int).toNat]⟩ : ByteArray).size = 1 := rfl
  have hm2 : -9223372036854775800 ≤ (m, s).1 ∧ (m, s).1 ≤ 9223372036854775800 := by
   show -9223372036854775800 ≤ m ∧ m ≤ 9223372036854775800
   omega
  have hl2 : (m, s).2.size ≤ 21 := hl
  have nx : (s.data.toList = [] ∨ m ≠ 0) → DecAt n (m.tdiv 10) ((⟨#[UInt8.ofNat ((48 + m.natAbs % 10 : Nat) : Int).toNat]⟩ : ByteArray) ++ s).data.toList := fun h => by
   rw [ba_app]; exact hI.step h
  have nm : (m.tdiv 10).natAbs ≤ n.natAbs := by rw [div_abs]; omega
  have nd : (s.data.toList = [] ∨ m ≠ 0) → (m.tdiv 10).natAbs + (if ((⟨#[UInt8.ofNat ((48 + m.natAbs % 10 : Nat) : Int).toNat]⟩ : ByteArray) ++ s).data.toList = [] then 1 else 0) < m.natAbs + (if s.data.toList = [] then 1 else 0) := fun h => by
   rw [if_neg (by rw [ba_app]; simp), div_abs]
   rcases h with h | h
   ·rw [if_pos h]; omega
   ·split <;> omega
  have se : ∀ x : (m, s).2 = ⟨#[]⟩, s.data.toList = [] := fun x => by rw [show s = ⟨#[]⟩ from x]
  conv => whnf
  repeat' (first|((refine Wr.as (ik := .u8) ((48 + m.natAbs % 10 : Nat) : Int) hu ?_);conv=>whnf)|((with_reducible first|refine Split.of_true ?_|refine Split.of_false ?_);conv=>whnf)|(with_reducible refine Split.neg ?_)|((with_reducible refine Split.is_true ?_ ?_);decide;conv=>whnf)|((with_reducible refine Split.is_false ?_ ?_);decide;conv=>whnf)|((with_reducible refine Split.nez (fun _=>?_) (fun _=>?_))<;>conv=>whnf)|((with_reducible refine Split.eqz (fun _=>?_) (fun _=>?_))<;>conv=>whnf)|(with_reducible refine Split.and ?_)|(with_reducible refine Split.or ?_)|((with_reducible refine Split.streq (fun _=>?_) (fun _=>?_))<;>conv=>whnf)|((with_reducible refine Split.dec (fun _=>?_) (fun _=>?_))<;>conv=>whnf)|((with_reducible refine Split.mk (fun _=>?_) (fun _=>?_))<;>conv=>whnf)|((with_reducible refine NilK.mk (fun _=>?_) ?_)<;>conv=>whnf)|((with_reducible refine AltK.l ?_);(conv=>whnf);(with_reducible refine Need.mk ?_ ?_);(first|omega|(refine ⟨?_,?_⟩<;>simp<;>omega)|(simp;omega));conv=>whnf)|((with_reducible refine Need.mk ?_ ?_);(first|omega|rfl|decide|(refine ⟨?_,?_⟩<;>simp<;>omega)|(simp;omega));conv=>whnf)|((with_reducible refine Wr.quo ?_ ?_ ?_ ?_);omega;omega;omega;conv=>whnf)|((with_reducible refine Wr.inr ?_ ?_);(first|omega|(simp;omega));conv=>whnf)|((with_reducible refine Wr.inu ?_ ?_);omega;conv=>whnf)|(exfalso;first|omega|contradiction)|fail)
  all_goals first
   |(have h0 : s.data.toList = [] ∨ m ≠ 0 := .inl (se (by assumption))
     exact Again.au (m.tdiv 10, (⟨#[UInt8.ofNat ((48 + m.natAbs % 10 : Nat) : Int).toNat]⟩ : ByteArray) ++ s) ⟨nx h0, nm⟩ (nd h0) (by refine ⟨?_, ?_, rfl⟩<;>(repeat' (first|exact True.intro|exact rfl|(refine ⟨?_,?_⟩)|(intro h;cases h;done)|(intro h;exact h)|exact map_snoc|(refine own_congr ?_;simp;done)|(refine int_congr ?_;(first|omega|(simp;omega)))|(simp;done)|fail));done))
   |(have h0 : s.data.toList = [] ∨ m ≠ 0 := .inr (by assumption)
     exact Again.au (m.tdiv 10, (⟨#[UInt8.ofNat ((48 + m.natAbs % 10 : Nat) : Int).toNat]⟩ : ByteArray) ++ s) ⟨nx h0, nm⟩ (nd h0) (by refine ⟨?_, ?_, rfl⟩<;>(repeat' (first|exact True.intro|exact rfl|(refine ⟨?_,?_⟩)|(intro h;cases h;done)|(intro h;exact h)|exact map_snoc|(refine own_congr ?_;simp;done)|(refine int_congr ?_;(first|omega|(simp;omega)))|(simp;done)|fail));done))
   |(have h0 : m = 0 := by assumption
     have h1 : s ≠ ⟨#[]⟩ := by assumption
     subst h0
     refine congrArg D.str (fin _ ?_ s (hI.fin fun h => h1 (ba_ext h)))
     first
      |(rw [if_pos (by assumption)]; done)
      |(rw [if_neg (by assumption)]; done))
end Go.Proofs.Tryd
end

section
namespace Go.Proofs.Tryd
open Go Go.Vm Go.Plain
set_option maxRecDepth 20000
set_option maxHeartbeats 4000000
theorem ev_PrintR (g : Ga) (hg : gErr g = 0) : Ev Tryd.prog 10 [gD g] (.str (gText g)) := by
 obtain ⟨g1, g2, g3, g4, g5⟩ := good_of hg
 have gn := name_le (gErr_name hg)
 have b1 := itoaB_size g.x (by omega)
 have b2 := itoaB_size g.err (by omega)
 have hl : (g.marks.map mD).length = g.marks.length := List.length_map _
 have z0 : (⟨#[]⟩ : ByteArray).size = 0 := rfl
 have z1 : (⟨#[103, 97, 117, 103, 101, 32]⟩ : ByteArray).size = 6 := rfl
 have z2 : (⟨#[32]⟩ : ByteArray).size = 1 := rfl
 have z3 : (⟨#[10]⟩ : ByteArray).size = 1 := rfl
 have hh : (headT g).size ≤ 100 := by simp only [headT, sp, nl, ByteArray.size_append]; omega
 refine ev_of_awp tysOk mixed (fn := Tryd.f10) Tryd.func10 rfl rfl rfl ?_
 conv => whnf
 repeat' (first|((with_reducible first|refine Split.of_true ?_|refine Split.of_false ?_);conv=>whnf)|(with_reducible refine Split.neg ?_)|((with_reducible refine Split.is_true ?_ ?_);decide;conv=>whnf)|((with_reducible refine Split.is_false ?_ ?_);decide;conv=>whnf)|((with_reducible refine Split.nez (fun _=>?_) (fun _=>?_))<;>conv=>whnf)|((with_reducible refine Split.eqz (fun _=>?_) (fun _=>?_))<;>conv=>whnf)|(with_reducible refine Split.and ?_)|(with_reducible refine Split.or ?_)|((with_reducible refine Split.streq (fun _=>?_) (fun _=>?_))<;>conv=>whnf)|((with_reducible refine Split.dec (fun _=>?_) (fun _=>?_))<;>conv=>whnf)|((with_reducible refine Split.mk (fun _=>?_) (fun _=>?_))<;>conv=>whnf)|((with_reducible refine NilK.mk (fun _=>?_) ?_)<;>conv=>whnf)|((with_reducible refine AltK.l ?_);(conv=>whnf);(with_reducible refine Need.mk ?_ ?_);(first|omega|(refine ⟨?_,?_⟩<;>simp<;>omega)|(simp;omega));conv=>whnf)|((with_reducible refine Need.mk ?_ ?_);(first|omega|rfl|decide|(refine ⟨?_,?_⟩<;>simp<;>omega)|(simp;omega));conv=>whnf)|((with_reducible refine Wr.quo ?_ ?_ ?_ ?_);omega;omega;omega;conv=>whnf)|((with_reducible refine Wr.inr ?_ ?_);(first|omega|(simp;omega));conv=>whnf)|((with_reducible refine Wr.inu ?_ ?_);omega;conv=>whnf)|((with_reducible refine AltK.l ?_);(conv=>whnf);(first|(refine CallK.mk _ (ev_decimal _ (by omega)) ?_));conv=>whnf)|(exfalso;first|omega|contradiction)|fail)
 refine LoopK.o2 (fun r : Nat × ByteArray => r.1 ≤ g.marks.length ∧ marksT r.2 (g.marks.drop r.1) = gText g ∧ r.2.size ≤ 200 + 100 * r.1) (fun r => [(3, .d (.str r.2)), (4, .d (.int .i64 r.1))]) (fun _ => []) (fun r => g.marks.length - r.1)
  (0, headT g) ⟨Nat.zero_le _, rfl, by show (headT g).size ≤ _;omega⟩ (by refine ⟨?_, ?_, rfl⟩<;>(repeat' (first|exact True.intro|exact rfl|(refine ⟨?_,?_⟩)|(intro h;cases h;done)|(intro h;exact h)|exact map_snoc|(refine own_congr ?_;simp;done)|(refine int_congr ?_;(first|omega|(simp;omega)))|(simp;done)|((first|refine own_congr ?_|refine int_congr ?_|skip);simp [D.cells];done)|((first|refine own_congr ?_|refine int_congr ?_);simp [D.cells];omega)|(show @Eq (List Go.Vm.D) _ [];simp [D.cells];done)|(simp [D.cells,D.cells];done)|fail));done) ?_
 rintro ⟨i, s⟩ ⟨hi, hs1, hs2⟩
 have hi : i ≤ g.marks.length := hi
 have hs2 : s.size ≤ 200 + 100 * i := hs2
 have hs4 : (i, s).2.size ≤ 200 + 100 * i := hs2
 by_cases hil : i < g.marks.length
 ·obtain ⟨m, hm⟩ := some_of_lt (l := g.marks) (i := i) hil
  obtain ⟨c1, c2⟩ := mark_bd (g4 m (List.mem_of_getElem? hm))
  have c3 := wrongB_false (g4 m (List.mem_of_getElem? hm))
  have ea : (i, s).2 ++ itoaB m.m ++ ⟨#[32]⟩ ++ itoaB m.l ++ ⟨#[10]⟩ = s ++ markT m := ba_ext (by simp [markT, sp, nl])
  have hmpa : AV.d (D.str ((i, s).2 ++ itoaB m.m ++ ⟨#[32]⟩ ++ itoaB m.l ++ ⟨#[10]⟩)) = AV.d (D.str (s ++ markT m)) := by rw [ea]
  conv => whnf
  repeat' (first|((refine PickE.map i hm (by omega) ?_);conv=>whnf)|((with_reducible first|refine Split.of_true ?_|refine Split.of_false ?_);conv=>whnf)|(with_reducible refine Split.neg ?_)|((with_reducible refine Split.is_true ?_ ?_);decide;conv=>whnf)|((with_reducible refine Split.is_false ?_ ?_);decide;conv=>whnf)|((with_reducible refine Split.nez (fun _=>?_) (fun _=>?_))<;>conv=>whnf)|((with_reducible refine Split.eqz (fun _=>?_) (fun _=>?_))<;>conv=>whnf)|(with_reducible refine Split.and ?_)|(with_reducible refine Split.or ?_)|((with_reducible refine Split.streq (fun _=>?_) (fun _=>?_))<;>conv=>whnf)|((with_reducible refine Split.dec (fun _=>?_) (fun _=>?_))<;>conv=>whnf)|((with_reducible refine Split.mk (fun _=>?_) (fun _=>?_))<;>conv=>whnf)|((with_reducible refine NilK.mk (fun _=>?_) ?_)<;>conv=>whnf)|((with_reducible refine AltK.l ?_);(conv=>whnf);(with_reducible refine Need.mk ?_ ?_);(first|omega|(refine ⟨?_,?_⟩<;>simp<;>omega)|(simp;omega));conv=>whnf)|((with_reducible refine Need.mk ?_ ?_);(first|omega|rfl|decide|(refine ⟨?_,?_⟩<;>simp<;>omega)|(simp;omega));conv=>whnf)|((with_reducible refine Wr.quo ?_ ?_ ?_ ?_);omega;omega;omega;conv=>whnf)|((with_reducible refine Wr.inr ?_ ?_);(first|omega|(simp;omega));conv=>whnf)|((with_reducible refine Wr.inu ?_ ?_);omega;conv=>whnf)|((with_reducible refine AltK.l ?_);(conv=>whnf);(first|(refine CallK.mk _ (ev_decimal _ (by omega)) ?_));conv=>whnf)|(exfalso;first|omega|contradiction)|fail)
  all_goals first
   |(exfalso; dsimp only at *; omega)
   | exact Again.au (i + 1, s ++ markT m) ⟨by show i + 1 ≤ _;omega, by rw [drop_of hm] at hs1;exact hs1, by show (s ++ markT m).size ≤ _;simp only [markT, sp, nl, ByteArray.size_append];omega⟩ (by show g.marks.length - (i + 1) < g.marks.length - i;omega) (by refine ⟨?_, ?_, rfl⟩<;>(repeat' (first|exact True.intro|exact rfl|(refine ⟨?_,?_⟩)|(intro h;cases h;done)|(intro h;exact h)|exact map_snoc|(refine own_congr ?_;simp;done)|(refine int_congr ?_;(first|omega|(simp;omega)))|(simp;done)|exact hmpa|((first|refine own_congr ?_|refine int_congr ?_|skip);simp [D.cells];done)|((first|refine own_congr ?_|refine int_congr ?_);simp [D.cells];omega)|(show @Eq (List Go.Vm.D) _ [];simp [D.cells];done)|(simp [D.cells,D.cells];done)|fail));done)
 ·have hs3 : s = gText g := by
   have : i = g.marks.length := by omega
   rw [← hs1]
   show s = marksT s (g.marks.drop i)
   rw [this, List.drop_length]
   rfl
  subst hs3
  conv => whnf
  repeat' (first|((with_reducible first|refine Split.of_true ?_|refine Split.of_false ?_);conv=>whnf)|(with_reducible refine Split.neg ?_)|((with_reducible refine Split.is_true ?_ ?_);decide;conv=>whnf)|((with_reducible refine Split.is_false ?_ ?_);decide;conv=>whnf)|((with_reducible refine Split.nez (fun _=>?_) (fun _=>?_))<;>conv=>whnf)|((with_reducible refine Split.eqz (fun _=>?_) (fun _=>?_))<;>conv=>whnf)|(with_reducible refine Split.and ?_)|(with_reducible refine Split.or ?_)|((with_reducible refine Split.streq (fun _=>?_) (fun _=>?_))<;>conv=>whnf)|((with_reducible refine Split.dec (fun _=>?_) (fun _=>?_))<;>conv=>whnf)|((with_reducible refine Split.mk (fun _=>?_) (fun _=>?_))<;>conv=>whnf)|((with_reducible refine NilK.mk (fun _=>?_) ?_)<;>conv=>whnf)|((with_reducible refine AltK.l ?_);(conv=>whnf);(with_reducible refine Need.mk ?_ ?_);(first|omega|(refine ⟨?_,?_⟩<;>simp<;>omega)|(simp;omega));conv=>whnf)|((with_reducible refine Need.mk ?_ ?_);(first|omega|rfl|decide|(refine ⟨?_,?_⟩<;>simp<;>omega)|(simp;omega));conv=>whnf)|((with_reducible refine Wr.quo ?_ ?_ ?_ ?_);omega;omega;omega;conv=>whnf)|((with_reducible refine Wr.inr ?_ ?_);(first|omega|(simp;omega));conv=>whnf)|((with_reducible refine Wr.inu ?_ ?_);omega;conv=>whnf)|(exfalso;first|omega|contradiction)|fail)
  all_goals first
   |(exfalso; dsimp only at *; omega)
   | rfl
end Go.Proofs.Tryd
end

section
namespace Go.Proofs.Tryd
open Go Go.Vm Go.Plain
set_option maxRecDepth 20000
set_option maxHeartbeats 4000000
theorem trim_itoa (n : Int) (h : n.natAbs ≤ 9999999) : (trimB (itoaB n) ⟨#[45]⟩).size ≤ 7 := by
 have hd := dig_len (k := 6) (u := n.natAbs) (by omega)
 show (Lib.trimPrefix (Lib.itoa n) [45]).toArray.size ≤ 7
 rw [List.size_toArray, itoa_sign]
 unfold Lib.trimPrefix Lib.hasPrefix
 by_cases hn : n < 0
 ·rw [if_pos hn]
  simp
  omega
 ·rw [if_neg hn]
  rw [List.nil_append]
  split
  ·simp; omega
  ·omega
theorem atoiD_itoa (n : Int) (h : n.natAbs < 1000000000000000) : atoiD (itoaB n) = .tup [.int .i64 n, .ifc false] := by
 unfold atoiD
 rw [itoaB_list, atoi_itoa n h]
theorem ev_number (n : Int) (h : n.natAbs ≤ 9999999) : Ev Tryd.prog 31 [.str (itoaB n)] (.tup [.int .i64 n, .bool true]) := by
 have h1 := ev_Atoi (itoaB n) (by have := itoaB_size n (by omega); omega)
 rw [atoiD_itoa n (by omega)] at h1
 have h2 := ev_Trim (itoaB n) ⟨#[45]⟩
 have h3 := trim_itoa n h
 have h4 := ev_Itoa n (by omega)
 refine ev_of_awp tysOk mixed (fn := Tryd.f31) Tryd.func31 rfl rfl rfl ?_
 conv => whnf
 repeat' (first|((with_reducible first|refine Split.of_true ?_|refine Split.of_false ?_);conv=>whnf)|(with_reducible refine Split.neg ?_)|((with_reducible refine Split.is_true ?_ ?_);decide;conv=>whnf)|((with_reducible refine Split.is_false ?_ ?_);decide;conv=>whnf)|((with_reducible refine Split.nez (fun _=>?_) (fun _=>?_))<;>conv=>whnf)|((with_reducible refine Split.eqz (fun _=>?_) (fun _=>?_))<;>conv=>whnf)|(with_reducible refine Split.and ?_)|(with_reducible refine Split.or ?_)|((with_reducible refine Split.streq (fun _=>?_) (fun _=>?_))<;>conv=>whnf)|((with_reducible refine Split.dec (fun _=>?_) (fun _=>?_))<;>conv=>whnf)|((with_reducible refine Split.mk (fun _=>?_) (fun _=>?_))<;>conv=>whnf)|((with_reducible refine NilK.mk (fun _=>?_) ?_)<;>conv=>whnf)|((with_reducible refine AltK.l ?_);(conv=>whnf);(with_reducible refine Need.mk ?_ ?_);(first|omega|(refine ⟨?_,?_⟩<;>simp<;>omega)|(simp;omega));conv=>whnf)|((with_reducible refine Need.mk ?_ ?_);(first|omega|rfl|decide|(refine ⟨?_,?_⟩<;>simp<;>omega)|(simp;omega));conv=>whnf)|((with_reducible refine Wr.quo ?_ ?_ ?_ ?_);omega;omega;omega;conv=>whnf)|((with_reducible refine Wr.inr ?_ ?_);(first|omega|(simp;omega));conv=>whnf)|((with_reducible refine Wr.inu ?_ ?_);omega;conv=>whnf)|((with_reducible refine AltK.l ?_);(conv=>whnf);(first|(refine CallK.mk _ (h1) ?_)|(refine CallK.mk _ (h2) ?_)|(refine CallK.mk _ (h4) ?_));conv=>whnf)|(exfalso;first|omega|contradiction)|fail)
 simp [retOf]
theorem ev_lineI (a b : Int) (ha : a.natAbs ≤ 9999999) (hb : b.natAbs ≤ 9999999) : Ev Tryd.prog 21 [.sl 1 [.str (itoaB a), .str (itoaB b)]] (.tup [.agg [.int .i64 a, .int .i64 b], .bool true]) := by
 have h1 := ev_number a ha
 have h2 := ev_number b hb
 refine ev_of_awp tysOk mixed (fn := Tryd.f21) Tryd.func21 rfl rfl rfl ?_
 conv => whnf
 repeat' (first|((refine PickE.mk _ rfl ?_);conv=>whnf)|((with_reducible first|refine Split.of_true ?_|refine Split.of_false ?_);conv=>whnf)|(with_reducible refine Split.neg ?_)|((with_reducible refine Split.is_true ?_ ?_);decide;conv=>whnf)|((with_reducible refine Split.is_false ?_ ?_);decide;conv=>whnf)|((with_reducible refine Split.nez (fun _=>?_) (fun _=>?_))<;>conv=>whnf)|((with_reducible refine Split.eqz (fun _=>?_) (fun _=>?_))<;>conv=>whnf)|(with_reducible refine Split.and ?_)|(with_reducible refine Split.or ?_)|((with_reducible refine Split.streq (fun _=>?_) (fun _=>?_))<;>conv=>whnf)|((with_reducible refine Split.dec (fun _=>?_) (fun _=>?_))<;>conv=>whnf)|((with_reducible refine Split.mk (fun _=>?_) (fun _=>?_))<;>conv=>whnf)|((with_reducible refine NilK.mk (fun _=>?_) ?_)<;>conv=>whnf)|((with_reducible refine AltK.l ?_);(conv=>whnf);(with_reducible refine Need.mk ?_ ?_);(first|omega|(refine ⟨?_,?_⟩<;>simp<;>omega)|(simp;omega));conv=>whnf)|((with_reducible refine Need.mk ?_ ?_);(first|omega|rfl|decide|(refine ⟨?_,?_⟩<;>simp<;>omega)|(simp;omega));conv=>whnf)|((with_reducible refine Wr.quo ?_ ?_ ?_ ?_);omega;omega;omega;conv=>whnf)|((with_reducible refine Wr.inr ?_ ?_);(first|omega|(simp;omega));conv=>whnf)|((with_reducible refine Wr.inu ?_ ?_);omega;conv=>whnf)|((with_reducible refine AltK.l ?_);(conv=>whnf);(first|(refine CallK.mk _ (h1) ?_)|(refine CallK.mk _ (h2) ?_));conv=>whnf)|(exfalso;first|omega|contradiction)|fail)
 rfl
end Go.Proofs.Tryd
end

section
namespace Go.Proofs.Tryd
open Go Go.Vm Go.Plain
set_option maxRecDepth 20000
set_option maxHeartbeats 4000000
/-! A gauge's text, divided into lines and words. -/
def ofL (l : List UInt8) : ByteArray := ⟨l.toArray⟩
theorem ofL_data (s : ByteArray) : ofL s.data.toList = s := ba_ext rfl
theorem splitD_eq (s : ByteArray) (c : UInt8) : splitD s ⟨#[c]⟩ = (spl c s.data.toList).map ofL := by
 have h : (splitD s ⟨#[c]⟩).map (·.data.toList) = spl c s.data.toList := by
  unfold splitD
  rw [Lib.splitB_data]
  have : Lib.countB s ⟨#[c]⟩ = s.data.toList.count c := Lib.count_one c s.data.toList
  rw [this]
  exact splitK_one c s.data.toList
 rw [← h, List.map_map]
 have : (ofL ∘ fun x : ByteArray => x.data.toList) = id := funext ofL_data
 rw [this, List.map_id]
theorem itoa_no (n : Int) (c : UInt8) (h : c.toNat ≠ 45 ∧ (c.toNat < 48 ∨ 57 < c.toNat)) : c ∉ Lib.itoa n := by
 rw [itoa_sign]
 intro hm
 rcases List.mem_append.1 hm with hm | hm
 ·split at hm
  ·rw [List.mem_singleton] at hm
   subst hm
   exact h.1 rfl
  ·cases hm
 ·have := dig_mem _ c hm
  omega
theorem name_no {s : ByteArray} (h : nameB s = true) (c : UInt8) (hc : c.toNat ≤ 32) : c ∉ s.data.toList := by
 intro hm
 obtain ⟨i, hi⟩ := List.getElem?_of_mem hm
 simp only [nameB, Bool.and_eq_true, decide_eq_true_eq] at h
 have hlt : i < s.size := by rw [ba_size]; exact lt_of_get hi
 have hb := h.2 i hlt
 have hv : bAt s i = (c.toNat : Int) := by unfold bAt; rw [hi]
 unfold badAt at hb
 rw [hv] at hb
 simp only [letterZ, otherZ, Bool.not_or, Bool.and_eq_false_iff, Bool.not_eq_false', Bool.and_eq_true, decide_eq_true_eq, Bool.or_eq_false_iff, decide_eq_false_iff_not] at hb
 omega
def headW (g : Ga) : List UInt8 := [103, 97, 117, 103, 101, 32] ++ g.name.data.toList ++ [32] ++ Lib.itoa g.x ++ [32] ++ Lib.itoa g.err
def markW (m : Mk) : List UInt8 := Lib.itoa m.m ++ [32] ++ Lib.itoa m.l
theorem headT_list (g : Ga) : (headT g).data.toList = headW g ++ [10] := by simp [headT, headW, sp, nl, itoaB_list]
theorem markT_list (m : Mk) : (markT m).data.toList = markW m ++ [10] := by simp [markT, markW, sp, nl, itoaB_list]
theorem marksT_list : ∀ (l : List Mk) (s : ByteArray), (marksT s l).data.toList = s.data.toList ++ (l.map fun m => markW m ++ [10]).flatten
 | [], s => by simp [marksT]
 | m :: r, s => by rw [marksT, marksT_list r, ba_app, markT_list]; simp
theorem lines_of : ∀ (l : List Mk), spl 10 (l.map fun m => markW m ++ [10]).flatten = l.map markW ++ [[]]
 | [] => rfl
 | m :: r => by
  have h : (10 : UInt8) ∉ markW m := by
   intro hm
   simp only [markW, List.mem_append, List.mem_singleton] at hm
   rcases hm with (hm | hm) | hm
   ·exact itoa_no _ _ (by decide) hm
   ·revert hm; decide
   ·exact itoa_no _ _ (by decide) hm
  rw [List.map_cons, List.flatten_cons, List.append_assoc]
  show spl 10 (markW m ++ 10 :: (r.map fun m => markW m ++ [10]).flatten) = _
  rw [spl_app 10 _ _ h, lines_of r]
  rfl
theorem gText_lines {g : Ga} (h : nameB g.name = true) : spl 10 (gText g).data.toList = headW g :: g.marks.map markW ++ [[]] := by
 have hn : (10 : UInt8) ∉ headW g := by
  intro hm
  simp only [headW, List.mem_append, List.mem_singleton] at hm
  rcases hm with ((((hm | hm) | hm) | hm) | hm) | hm
  ·revert hm; decide
  ·exact name_no h _ (by decide) hm
  ·revert hm; decide
  ·exact itoa_no _ _ (by decide) hm
  ·revert hm; decide
  ·exact itoa_no _ _ (by decide) hm
 unfold gText
 rw [marksT_list, headT_list, List.append_assoc]
 show spl 10 (headW g ++ 10 :: (g.marks.map fun m => markW m ++ [10]).flatten) = _
 rw [spl_app 10 _ _ hn, lines_of]
 rfl
theorem head_words {g : Ga} (h : nameB g.name = true) : spl 32 (headW g) = [[103, 97, 117, 103, 101], g.name.data.toList, Lib.itoa g.x, Lib.itoa g.err] := by
 have e : headW g = [103, 97, 117, 103, 101] ++ 32 :: (g.name.data.toList ++ 32 :: (Lib.itoa g.x ++ 32 :: Lib.itoa g.err)) := by simp [headW]
 rw [e, spl_app 32 _ _ (by decide), spl_app 32 _ _ (name_no h _ (by decide)), spl_app 32 _ _ (itoa_no _ _ (by decide)), spl_no 32 _ (itoa_no _ _ (by decide))]
theorem mark_words (m : Mk) : spl 32 (markW m) = [Lib.itoa m.m, Lib.itoa m.l] := by
 have e : markW m = Lib.itoa m.m ++ 32 :: Lib.itoa m.l := by simp [markW]
 rw [e, spl_app 32 _ _ (itoa_no _ _ (by decide)), spl_no 32 _ (itoa_no _ _ (by decide))]
end Go.Proofs.Tryd
end

section
namespace Go.Proofs.Tryd
open Go Go.Vm Go.Plain
set_option maxRecDepth 20000
set_option maxHeartbeats 8000000
theorem marks_size : ∀ (l : List Mk) (s : ByteArray), (∀ m ∈ l, wrongB m.m m.l = false) → (marksT s l).size ≤ s.size + 44 * l.length
 | [], s, _ => by simp [marksT]
 | m :: r, s, h => by
  have h1 := mark_bd (h m List.mem_cons_self)
  have h2 := marks_size r (s ++ markT m) fun x hx => h x (List.mem_cons_of_mem _ hx)
  have z2 : (⟨#[32]⟩ : ByteArray).size = 1 := rfl
  have z3 : (⟨#[10]⟩ : ByteArray).size = 1 := rfl
  rw [marksT]
  have h3 : (s ++ markT m).size ≤ s.size + 44 := by simp only [markT, sp, nl, ByteArray.size_append]; omega
  simp only [List.length_cons]
  omega
def linesT (g : Ga) : List ByteArray := ofL (headW g) :: (g.marks.map fun m => ofL (markW m)) ++ [⟨#[]⟩]
theorem ev_lines (g : Ga) (hg : gErr g = 0) (hsz : (gText g).size ≤ 20000) : Ev Tryd.prog 20 [.str (gText g), .str ⟨#[10]⟩] (.sl 1 ((linesT g).map .str)) := by
 have h := ev_Split (gText g) ⟨#[10]⟩ (by omega) (by decide)
 rw [splitD_eq, gText_lines (gErr_name hg)] at h
 have e : (headW g :: g.marks.map markW ++ [[]]).map ofL = linesT g := by simp [linesT, ofL]
 rw [e] at h
 exact h
theorem ev_words0 (g : Ga) (hg : gErr g = 0) : Ev Tryd.prog 20 [.str (ofL (headW g)), .str ⟨#[32]⟩] (.sl 1 [.str ⟨#[103, 97, 117, 103, 101]⟩, .str g.name, .str (itoaB g.x), .str (itoaB g.err)]) := by
 obtain ⟨g1, g2, -, -, -⟩ := good_of hg
 have gn := name_le (gErr_name hg)
 have b1 := itoaB_size g.x (by omega)
 have b2 := itoaB_size g.err (by omega)
 have hs : (ofL (headW g)).size ≤ 100 := by
  have e : (ofL (headW g)).size = (headW g).length := List.size_toArray
  rw [ba_size] at b1 b2 gn
  rw [itoaB_list] at b1 b2
  rw [e]
  simp only [headW, List.length_append, List.length_cons, List.length_nil]
  omega
 have h := ev_Split (ofL (headW g)) ⟨#[32]⟩ (by omega) (by decide)
 rw [splitD_eq] at h
 have e : spl 32 (ofL (headW g)).data.toList = [[103, 97, 117, 103, 101], g.name.data.toList, Lib.itoa g.x, Lib.itoa g.err] := head_words (gErr_name hg)
 rw [e] at h
 exact h
theorem ev_wordsM (m : Mk) (hm : wrongB m.m m.l = false) : Ev Tryd.prog 20 [.str (ofL (markW m)), .str ⟨#[32]⟩] (.sl 1 [.str (itoaB m.m), .str (itoaB m.l)]) := by
 obtain ⟨b1, b2⟩ := mark_bd hm
 have hs : (ofL (markW m)).size ≤ 100 := by
  have e : (ofL (markW m)).size = (markW m).length := List.size_toArray
  rw [ba_size, itoaB_list] at b1 b2
  rw [e]
  simp only [markW, List.length_append, List.length_cons, List.length_nil]
  omega
 have h := ev_Split (ofL (markW m)) ⟨#[32]⟩ (by omega) (by decide)
 rw [splitD_eq] at h
 have e : spl 32 (ofL (markW m)).data.toList = [Lib.itoa m.m, Lib.itoa m.l] := mark_words m
 rw [e] at h
 exact h
theorem ne_empty {l : List UInt8} (h : l ≠ []) : ofL l ≠ ⟨#[]⟩ := fun e => h (by have := congrArg (fun b : ByteArray => b.data.toList) e; simpa [ofL] using this)
theorem ev_Parse (g : Ga) (hg : gErr g = 0) : Ev Tryd.prog 9 [.str (gText g)] (.tup [gD g, .int .i64 0, .int .i64 0]) := by
 obtain ⟨g1, g2, g3, g4, g5⟩ := good_of hg
 have gn := name_le (gErr_name hg)
 have hn0 : g.name ≠ ⟨#[]⟩ := fun e => by
  have := gErr_name hg
  rw [e] at this
  revert this; decide
 have z2 : (⟨#[32]⟩ : ByteArray).size = 1 := rfl
 have z3 : (⟨#[10]⟩ : ByteArray).size = 1 := rfl
 have z1 : (⟨#[103, 97, 117, 103, 101, 32]⟩ : ByteArray).size = 6 := rfl
 have b1 := itoaB_size g.x (by omega)
 have b2 := itoaB_size g.err (by omega)
 have hh : (headT g).size ≤ 100 := by simp only [headT, sp, nl, ByteArray.size_append]; omega
 have hsz : (gText g).size ≤ 20000 := by have := marks_size g.marks (headT g) g4; unfold gText; omega
 have hL := ev_lines g hg hsz
 have hll : ((linesT g).map D.str).length = g.marks.length + 2 := by simp [linesT]
 have hW0 := ev_words0 g hg
 have hl0 := ev_lineI g.x g.err (by omega) (by omega)
 have hc := ev_CheckGauge g
 rw [hg] at hc
 refine ev_of_awp tysOk mixed (fn := Tryd.f9) Tryd.func9 rfl rfl rfl ?_
 conv => whnf
 repeat' (first|((with_reducible first|refine Split.of_true ?_|refine Split.of_false ?_);conv=>whnf)|(with_reducible refine Split.neg ?_)|((with_reducible refine Split.is_true ?_ ?_);decide;conv=>whnf)|((with_reducible refine Split.is_false ?_ ?_);decide;conv=>whnf)|((with_reducible refine Split.nez (fun _=>?_) (fun _=>?_))<;>conv=>whnf)|((with_reducible refine Split.eqz (fun _=>?_) (fun _=>?_))<;>conv=>whnf)|(with_reducible refine Split.and ?_)|(with_reducible refine Split.or ?_)|((with_reducible refine Split.streq (fun _=>?_) (fun _=>?_))<;>conv=>whnf)|((with_reducible refine Split.dec (fun _=>?_) (fun _=>?_))<;>conv=>whnf)|((with_reducible refine Split.mk (fun _=>?_) (fun _=>?_))<;>conv=>whnf)|((with_reducible refine NilK.mk (fun _=>?_) ?_)<;>conv=>whnf)|((with_reducible refine AltK.l ?_);(conv=>whnf);(with_reducible refine Need.mk ?_ ?_);(first|omega|(refine ⟨?_,?_⟩<;>simp<;>omega)|(simp;omega));conv=>whnf)|((with_reducible refine Need.mk ?_ ?_);(first|omega|rfl|decide|(refine ⟨?_,?_⟩<;>simp<;>omega)|(simp;omega));conv=>whnf)|((with_reducible refine Wr.quo ?_ ?_ ?_ ?_);omega;omega;omega;conv=>whnf)|((with_reducible refine Wr.inr ?_ ?_);(first|omega|(simp;omega));conv=>whnf)|((with_reducible refine Wr.inu ?_ ?_);omega;conv=>whnf)|((with_reducible refine AltK.l ?_);(conv=>whnf);(first|(refine CallK.mk _ (hL) ?_));conv=>whnf)|(exfalso;first|omega|contradiction)|fail)
 all_goals try (exfalso; omega)
 refine LoopK.o2 (fun r : Nat × Ga => r.1 ≤ g.marks.length + 1 ∧ (r.1 = 0 → r.2 = ⟨⟨#[]⟩, 0, 0, []⟩) ∧ (0 < r.1 → r.2 = { g with marks := g.marks.take (r.1 - 1) })) (fun r => [(22, .d (.int .i64 r.1))])
  (fun r => [(6, .var [.d (.str r.2.name), .d (.int .i64 r.2.x), .d (.int .i64 r.2.err), .own 200 2 r.2.marks.length] false), (200, .row 47 2 (r.2.marks.map mD) false)]) (fun r => g.marks.length + 1 - r.1) (0, ⟨⟨#[]⟩, 0, 0, []⟩) ⟨Nat.zero_le _, fun _ => rfl, fun h => absurd h (by decide)⟩ (by refine ⟨?_, ?_, rfl⟩<;>(repeat' (first|exact True.intro|exact rfl|(refine ⟨?_,?_⟩)|(intro h;cases h;done)|(intro h;exact h)|exact map_snoc|(refine own_congr ?_;simp;done)|(refine int_congr ?_;(first|omega|(simp;omega)))|(simp;done)|fail));done) ?_
 rintro ⟨i, q⟩ ⟨hi, hq0, hq1⟩
 have hi : i ≤ g.marks.length + 1 := hi
 rcases Nat.eq_zero_or_pos i with hi0 | hi0
 ·subst hi0
  obtain rfl := hq0 rfl
  have hp : (linesT g)[0]? = some (ofL (headW g)) := rfl
  have hne : ofL (headW g) ≠ ⟨#[]⟩ := ne_empty (by simp [headW])
  conv => whnf
  repeat' (first|((refine PickE.mk _ rfl ?_);conv=>whnf)|((refine PickE.map 0 hp (by omega) ?_);conv=>whnf)|((with_reducible first|refine Split.of_true ?_|refine Split.of_false ?_);conv=>whnf)|(with_reducible refine Split.neg ?_)|((with_reducible refine Split.is_true ?_ ?_);decide;conv=>whnf)|((with_reducible refine Split.is_false ?_ ?_);decide;conv=>whnf)|((with_reducible refine Split.nez (fun _=>?_) (fun _=>?_))<;>conv=>whnf)|((with_reducible refine Split.eqz (fun _=>?_) (fun _=>?_))<;>conv=>whnf)|(with_reducible refine Split.and ?_)|(with_reducible refine Split.or ?_)|((with_reducible refine Split.streq (fun _=>?_) (fun _=>?_))<;>conv=>whnf)|((with_reducible refine Split.dec (fun _=>?_) (fun _=>?_))<;>conv=>whnf)|((with_reducible refine Split.mk (fun _=>?_) (fun _=>?_))<;>conv=>whnf)|((with_reducible refine NilK.mk (fun _=>?_) ?_)<;>conv=>whnf)|((with_reducible refine AltK.l ?_);(conv=>whnf);(with_reducible refine Need.mk ?_ ?_);(first|omega|(refine ⟨?_,?_⟩<;>simp<;>omega)|(simp;omega));conv=>whnf)|((with_reducible refine Need.mk ?_ ?_);(first|omega|rfl|decide|(refine ⟨?_,?_⟩<;>simp<;>omega)|(simp;omega));conv=>whnf)|((with_reducible refine Wr.quo ?_ ?_ ?_ ?_);omega;omega;omega;conv=>whnf)|((with_reducible refine Wr.inr ?_ ?_);(first|omega|(simp;omega));conv=>whnf)|((with_reducible refine Wr.inu ?_ ?_);omega;conv=>whnf)|((with_reducible refine AltK.l ?_);(conv=>whnf);(first|(refine CallK.mk _ (hW0) ?_)|(refine CallK.mk _ (hl0) ?_));conv=>whnf)|(exfalso;first|omega|contradiction)|fail)
  all_goals first
   |(exfalso; dsimp only at *; omega)
   | exact Again.au (1, { g with marks := [] }) ⟨by show 1 ≤ _;omega, fun h => absurd (show (1 : Nat) = 0 from h) (by decide), fun _ => rfl⟩ (by show g.marks.length + 1 - 1 < g.marks.length + 1 - 0;omega) (by refine ⟨?_, ?_, rfl⟩<;>(repeat' (first|exact True.intro|exact rfl|(refine ⟨?_,?_⟩)|(intro h;cases h;done)|(intro h;exact h)|exact map_snoc|(refine own_congr ?_;simp;done)|(refine int_congr ?_;(first|omega|(simp;omega)))|(simp;done)|fail));done)
 ·obtain rfl : q = { g with marks := g.marks.take (i - 1) } := hq1 hi0
  clear hq0 hq1
  by_cases hil : i ≤ g.marks.length
  ·obtain ⟨m, hm⟩ := some_of_lt (l := g.marks) (i := i - 1) (by omega)
   have hmw := g4 m (List.mem_of_getElem? hm)
   have c3 := wrongB_false hmw
   have hWm := ev_wordsM m hmw
   have hlm := ev_lineI m.m m.l (by omega) (by omega)
   have hp : (linesT g)[i]? = some (ofL (markW m)) := by
    obtain ⟨j, rfl⟩ : ∃ j, i = j + 1 := ⟨i - 1, by omega⟩
    have hm' : g.marks[j]? = some m := hm
    simp only [linesT, List.cons_append, List.getElem?_cons_succ]
    rw [List.getElem?_append_left (by rw [List.length_map]; exact lt_of_get hm'), List.getElem?_map, hm']
    rfl
   have hne : ofL (markW m) ≠ ⟨#[]⟩ := ne_empty (by simp [markW])
   have hlt : (g.marks.take (i - 1)).length = i - 1 := by rw [List.length_take]; omega
   have hlt2 : ((g.marks.take (i - 1)).map mD).length = i - 1 := by rw [List.length_map]; exact hlt
   have hnx : g.marks.take i = g.marks.take (i - 1) ++ [m] := by
    have := List.take_add_one (l := g.marks) (i := i - 1)
    rw [hm, show i - 1 + 1 = i by omega] at this
    exact this
   have hmp1 : (g.marks.take (i - 1)).map mD ++ D.agg [.int .i64 m.m, .int .i64 m.l] :: List.replicate 0 (D.agg [.int .i64 0, .int .i64 0]) = (g.marks.take i).map mD := by rw [hnx, List.map_append]; rfl
   conv => whnf
   repeat' (first|((refine PickE.mk _ rfl ?_);conv=>whnf)|((refine PickE.map i hp (by dsimp only;omega) ?_);conv=>whnf)|((with_reducible first|refine Split.of_true ?_|refine Split.of_false ?_);conv=>whnf)|(with_reducible refine Split.neg ?_)|((with_reducible refine Split.is_true ?_ ?_);decide;conv=>whnf)|((with_reducible refine Split.is_false ?_ ?_);decide;conv=>whnf)|((with_reducible refine Split.nez (fun _=>?_) (fun _=>?_))<;>conv=>whnf)|((with_reducible refine Split.eqz (fun _=>?_) (fun _=>?_))<;>conv=>whnf)|(with_reducible refine Split.and ?_)|(with_reducible refine Split.or ?_)|((with_reducible refine Split.streq (fun _=>?_) (fun _=>?_))<;>conv=>whnf)|((with_reducible refine Split.dec (fun _=>?_) (fun _=>?_))<;>conv=>whnf)|((with_reducible refine Split.mk (fun _=>?_) (fun _=>?_))<;>conv=>whnf)|((with_reducible refine NilK.mk (fun _=>?_) ?_)<;>conv=>whnf)|((with_reducible refine AltK.l ?_);(conv=>whnf);(with_reducible refine Need.mk ?_ ?_);(first|omega|(refine ⟨?_,?_⟩<;>simp<;>omega)|(simp;omega));conv=>whnf)|((with_reducible refine Need.mk ?_ ?_);(first|omega|rfl|decide|(refine ⟨?_,?_⟩<;>simp<;>omega)|(simp;omega));conv=>whnf)|((with_reducible refine Wr.quo ?_ ?_ ?_ ?_);omega;omega;omega;conv=>whnf)|((with_reducible refine Wr.inr ?_ ?_);(first|omega|(simp;omega));conv=>whnf)|((with_reducible refine Wr.inu ?_ ?_);omega;conv=>whnf)|((with_reducible refine AltK.l ?_);(conv=>whnf);(first|(refine CallK.mk _ (hWm) ?_)|(refine CallK.mk _ (hlm) ?_));conv=>whnf)|(exfalso;first|omega|contradiction)|fail)
   all_goals first
    |(exfalso; dsimp only at *; omega)
    | exact Again.au (i + 1, { g with marks := g.marks.take i }) ⟨by show i + 1 ≤ _;omega, fun h => absurd (show i + 1 = 0 from h) (by omega), fun _ => rfl⟩ (by show g.marks.length + 1 - (i + 1) < g.marks.length + 1 - i;omega) (by refine ⟨?_, ?_, rfl⟩<;>(repeat' (first|exact True.intro|exact rfl|(refine ⟨?_,?_⟩)|(intro h;cases h;done)|(intro h;exact h)|exact map_snoc|(refine own_congr ?_;simp;done)|(refine int_congr ?_;(first|omega|(simp;omega)))|(simp;done)|exact hmp1|((first|refine own_congr ?_|refine int_congr ?_|skip);simp [List.length_take];done)|((first|refine own_congr ?_|refine int_congr ?_);simp [List.length_take];omega)|(show @Eq (List Go.Vm.D) _ [];simp [List.length_take];done)|(simp [D.cells,List.length_take];done)|fail));done)
  ·have hie : i = g.marks.length + 1 := by omega
   have hp : (linesT g)[i]? = some ⟨#[]⟩ := by
    subst hie
    simp [linesT]
   have hge : g.marks.take (i - 1) = g.marks := List.take_of_length_le (by omega)
   have hc2 : Ev Tryd.prog 8 [gD { g with marks := g.marks.take (i - 1) }] (.int .i64 0) := by rw [hge]; exact hc
   conv => whnf
   repeat' (first|((refine PickE.mk _ rfl ?_);conv=>whnf)|((refine PickE.map i hp (by dsimp only;omega) ?_);conv=>whnf)|((with_reducible first|refine Split.of_true ?_|refine Split.of_false ?_);conv=>whnf)|(with_reducible refine Split.neg ?_)|((with_reducible refine Split.is_true ?_ ?_);decide;conv=>whnf)|((with_reducible refine Split.is_false ?_ ?_);decide;conv=>whnf)|((with_reducible refine Split.nez (fun _=>?_) (fun _=>?_))<;>conv=>whnf)|((with_reducible refine Split.eqz (fun _=>?_) (fun _=>?_))<;>conv=>whnf)|(with_reducible refine Split.and ?_)|(with_reducible refine Split.or ?_)|((with_reducible refine Split.streq (fun _=>?_) (fun _=>?_))<;>conv=>whnf)|((with_reducible refine Split.dec (fun _=>?_) (fun _=>?_))<;>conv=>whnf)|((with_reducible refine Split.mk (fun _=>?_) (fun _=>?_))<;>conv=>whnf)|((with_reducible refine NilK.mk (fun _=>?_) ?_)<;>conv=>whnf)|((with_reducible refine AltK.l ?_);(conv=>whnf);(with_reducible refine Need.mk ?_ ?_);(first|omega|(refine ⟨?_,?_⟩<;>simp<;>omega)|(simp;omega));conv=>whnf)|((with_reducible refine Need.mk ?_ ?_);(first|omega|rfl|decide|(refine ⟨?_,?_⟩<;>simp<;>omega)|(simp;omega));conv=>whnf)|((with_reducible refine Wr.quo ?_ ?_ ?_ ?_);omega;omega;omega;conv=>whnf)|((with_reducible refine Wr.inr ?_ ?_);(first|omega|(simp;omega));conv=>whnf)|((with_reducible refine Wr.inu ?_ ?_);omega;conv=>whnf)|((with_reducible refine AltK.l ?_);(conv=>whnf);(first|(refine CallK.mk _ (hc2) ?_));conv=>whnf)|(exfalso;first|omega|contradiction)|fail)
   all_goals first
    |(exfalso; dsimp only at *; omega)
    |(show D.tup [gD { g with marks := g.marks.take (i - 1) }, .int .i64 0, .int .i64 0] = _; rw [hge])
end Go.Proofs.Tryd
end

section
namespace Go.Proofs.Tryd
open Go Go.Vm
set_option maxRecDepth 20000
set_option maxHeartbeats 2000000
open Classical in
noncomputable def eqB {α : Type} (a b : α) : Bool := decide (a = b)
theorem eqB_self {α : Type} (a : α) : eqB a a = true := by simp [eqB]
theorem eqB_of {α : Type} {a b : α} (h : a = b) : eqB a b = true := by simp [eqB, h]
theorem eqB_ne {α : Type} {a b : α} (h : a ≠ b) : eqB a b = false := by simp [eqB, h]
theorem mk_ext {m n : Mk} (h1 : m.m = n.m) (h2 : m.l = n.l) : m = n := by cases m; cases n; simp_all
theorem ga_ext {m n : Ga} (h1 : m.name = n.name) (h2 : m.x = n.x) (h3 : m.err = n.err) (h4 : m.marks = n.marks) : m = n := by cases m; cases n; simp_all
theorem take_succ_eq {α : Type} {a b : List α} {i : Nat} {x : α} (ha : a[i]? = some x) (hb : b[i]? = some x) (h : a.take i = b.take i) : a.take (i + 1) = b.take (i + 1) := by
 rw [List.take_add_one, List.take_add_one, h, ha, hb]
theorem eq_of_take {α : Type} {a b : List α} {i : Nat} (h : a.take i = b.take i) (ha : a.length ≤ i) (hb : b.length ≤ i) : a = b := by
 rwa [List.take_of_length_le ha, List.take_of_length_le hb] at h
theorem ev_SameGauges (a b : List Ga) (hn : a.length < 1000000) (hm : ∀ g ∈ a, g.marks.length < 1000000) : Ev Tryd.prog 23 [.sl 4 (a.map gD), .sl 4 (b.map gD)] (.bool (eqB a b)) := by
 have hla : (a.map gD).length = a.length := List.length_map _
 have hlb : (b.map gD).length = b.length := List.length_map _
 refine ev_of_awp tysOk mixed (fn := Tryd.f23) Tryd.func23 rfl rfl rfl ?_
 conv => whnf
 repeat' (first|((with_reducible first|refine Split.of_true ?_|refine Split.of_false ?_);conv=>whnf)|(with_reducible refine Split.neg ?_)|((with_reducible refine Split.is_true ?_ ?_);decide;conv=>whnf)|((with_reducible refine Split.is_false ?_ ?_);decide;conv=>whnf)|((with_reducible refine Split.nez (fun _=>?_) (fun _=>?_))<;>conv=>whnf)|((with_reducible refine Split.eqz (fun _=>?_) (fun _=>?_))<;>conv=>whnf)|(with_reducible refine Split.and ?_)|(with_reducible refine Split.or ?_)|((with_reducible refine Split.streq (fun _=>?_) (fun _=>?_))<;>conv=>whnf)|((with_reducible refine Split.dec (fun _=>?_) (fun _=>?_))<;>conv=>whnf)|((with_reducible refine Split.mk (fun _=>?_) (fun _=>?_))<;>conv=>whnf)|((with_reducible refine NilK.mk (fun _=>?_) ?_)<;>conv=>whnf)|((with_reducible refine AltK.l ?_);(conv=>whnf);(with_reducible refine Need.mk ?_ ?_);(first|omega|(refine ⟨?_,?_⟩<;>simp<;>omega)|(simp;omega));conv=>whnf)|((with_reducible refine Need.mk ?_ ?_);(first|omega|rfl|decide|(refine ⟨?_,?_⟩<;>simp<;>omega)|(simp;omega));conv=>whnf)|((with_reducible refine Wr.quo ?_ ?_ ?_ ?_);omega;omega;omega;conv=>whnf)|((with_reducible refine Wr.inr ?_ ?_);(first|omega|(simp;omega));conv=>whnf)|((with_reducible refine Wr.inu ?_ ?_);omega;conv=>whnf)|(exfalso;first|omega|contradiction)|fail)
 ·exact congrArg D.bool (eqB_ne fun e => by subst e; omega).symm
 refine LoopK.ov (fun i : Nat => i ≤ a.length ∧ a.take i = b.take i)
  (fun i => [(5, .d (.int .i64 i))]) [] (fun _ => []) (fun i => a.length - i) 0 (by simp) (by refine ⟨?_, ?_, rfl⟩<;>(repeat' (first|exact True.intro|exact rfl|(refine ⟨?_,?_⟩)|(intro h;cases h;done)|(intro h;exact h)|exact map_snoc|(refine own_congr ?_;simp;done)|(refine int_congr ?_;(first|omega|(simp;omega)))|(simp;done)|fail));done) ?_
 rintro i ⟨hi, ht⟩
 have hab : a.length = b.length := by omega
 have hxy : (i : Int) < a.length → (∃ x, a[i]? = some x) ∧ ∃ y, b[i]? = some y := fun h => ⟨some_of_lt (by omega), some_of_lt (by omega)⟩
 conv => whnf
 repeat' (first|((with_reducible first|refine Split.of_true ?_|refine Split.of_false ?_);conv=>whnf)|(with_reducible refine Split.neg ?_)|((with_reducible refine Split.is_true ?_ ?_);decide;conv=>whnf)|((with_reducible refine Split.is_false ?_ ?_);decide;conv=>whnf)|((with_reducible refine Split.nez (fun _=>?_) (fun _=>?_))<;>conv=>whnf)|((with_reducible refine Split.eqz (fun _=>?_) (fun _=>?_))<;>conv=>whnf)|(with_reducible refine Split.and ?_)|(with_reducible refine Split.or ?_)|((with_reducible refine Split.streq (fun _=>?_) (fun _=>?_))<;>conv=>whnf)|((with_reducible refine Split.dec (fun _=>?_) (fun _=>?_))<;>conv=>whnf)|((with_reducible refine Split.mk (fun _=>?_) (fun _=>?_))<;>conv=>whnf)|((with_reducible refine NilK.mk (fun _=>?_) ?_)<;>conv=>whnf)|((with_reducible refine AltK.l ?_);(conv=>whnf);(with_reducible refine Need.mk ?_ ?_);(first|omega|(refine ⟨?_,?_⟩<;>simp<;>omega)|(simp;omega));conv=>whnf)|((with_reducible refine Need.mk ?_ ?_);(first|omega|rfl|decide|(refine ⟨?_,?_⟩<;>simp<;>omega)|(simp;omega));conv=>whnf)|((with_reducible refine Wr.quo ?_ ?_ ?_ ?_);omega;omega;omega;conv=>whnf)|((with_reducible refine Wr.inr ?_ ?_);(first|omega|(simp;omega));conv=>whnf)|((with_reducible refine Wr.inu ?_ ?_);omega;conv=>whnf)|(exfalso;first|omega|contradiction)|fail)
 ·obtain ⟨⟨x, hx⟩, y, hy⟩ := hxy (by omega)
  have hxm := hm x (List.mem_of_getElem? hx)
  have hlx : (x.marks.map mD).length = x.marks.length := List.length_map _
  have hly : (y.marks.map mD).length = y.marks.length := List.length_map _
  have hne : x ≠ y → eqB a b = false := fun h => eqB_ne fun e => h (by subst e; exact Option.some.inj (hx.symm.trans hy))
  conv => whnf
  repeat' (first|((refine PickE.map i hy (by omega) ?_);conv=>whnf)|((refine PickE.map i hx (by omega) ?_);conv=>whnf)|((with_reducible first|refine Split.of_true ?_|refine Split.of_false ?_);conv=>whnf)|(with_reducible refine Split.neg ?_)|((with_reducible refine Split.is_true ?_ ?_);decide;conv=>whnf)|((with_reducible refine Split.is_false ?_ ?_);decide;conv=>whnf)|((with_reducible refine Split.nez (fun _=>?_) (fun _=>?_))<;>conv=>whnf)|((with_reducible refine Split.eqz (fun _=>?_) (fun _=>?_))<;>conv=>whnf)|(with_reducible refine Split.and ?_)|(with_reducible refine Split.or ?_)|((with_reducible refine Split.streq (fun _=>?_) (fun _=>?_))<;>conv=>whnf)|((with_reducible refine Split.dec (fun _=>?_) (fun _=>?_))<;>conv=>whnf)|((with_reducible refine Split.mk (fun _=>?_) (fun _=>?_))<;>conv=>whnf)|((with_reducible refine NilK.mk (fun _=>?_) ?_)<;>conv=>whnf)|((with_reducible refine AltK.l ?_);(conv=>whnf);(with_reducible refine Need.mk ?_ ?_);(first|omega|(refine ⟨?_,?_⟩<;>simp<;>omega)|(simp;omega));conv=>whnf)|((with_reducible refine Need.mk ?_ ?_);(first|omega|rfl|decide|(refine ⟨?_,?_⟩<;>simp<;>omega)|(simp;omega));conv=>whnf)|((with_reducible refine Wr.quo ?_ ?_ ?_ ?_);omega;omega;omega;conv=>whnf)|((with_reducible refine Wr.inr ?_ ?_);(first|omega|(simp;omega));conv=>whnf)|((with_reducible refine Wr.inu ?_ ?_);omega;conv=>whnf)|(exfalso;first|omega|contradiction)|fail)
  all_goals first
   | exact congrArg D.bool (hne fun e => by subst e; omega).symm
   | exact congrArg D.bool (hne fun e => by subst e; contradiction).symm
   | skip
  refine LoopK.ov (fun k : Nat => k ≤ x.marks.length ∧ x.marks.take k = y.marks.take k)
   (fun k => [(6, .d (.int .i64 k))]) [] (fun _ => []) (fun k => x.marks.length - k) 0 (by simp) (by refine ⟨?_, ?_, rfl⟩<;>(repeat' (first|exact True.intro|exact rfl|(refine ⟨?_,?_⟩)|(intro h;cases h;done)|(intro h;exact h)|exact map_snoc|(refine own_congr ?_;simp;done)|(refine int_congr ?_;(first|omega|(simp;omega)))|(simp;done)|fail));done) ?_
  rintro k ⟨hk, hkt⟩
  have hxk : (k : Int) < x.marks.length → (∃ m, x.marks[k]? = some m) ∧ ∃ n, y.marks[k]? = some n := fun h => ⟨some_of_lt (by omega), some_of_lt (by omega)⟩
  conv => whnf
  repeat' (first|((refine PickE.map i hx (by omega) ?_);conv=>whnf)|((with_reducible first|refine Split.of_true ?_|refine Split.of_false ?_);conv=>whnf)|(with_reducible refine Split.neg ?_)|((with_reducible refine Split.is_true ?_ ?_);decide;conv=>whnf)|((with_reducible refine Split.is_false ?_ ?_);decide;conv=>whnf)|((with_reducible refine Split.nez (fun _=>?_) (fun _=>?_))<;>conv=>whnf)|((with_reducible refine Split.eqz (fun _=>?_) (fun _=>?_))<;>conv=>whnf)|(with_reducible refine Split.and ?_)|(with_reducible refine Split.or ?_)|((with_reducible refine Split.streq (fun _=>?_) (fun _=>?_))<;>conv=>whnf)|((with_reducible refine Split.dec (fun _=>?_) (fun _=>?_))<;>conv=>whnf)|((with_reducible refine Split.mk (fun _=>?_) (fun _=>?_))<;>conv=>whnf)|((with_reducible refine NilK.mk (fun _=>?_) ?_)<;>conv=>whnf)|((with_reducible refine AltK.l ?_);(conv=>whnf);(with_reducible refine Need.mk ?_ ?_);(first|omega|(refine ⟨?_,?_⟩<;>simp<;>omega)|(simp;omega));conv=>whnf)|((with_reducible refine Need.mk ?_ ?_);(first|omega|rfl|decide|(refine ⟨?_,?_⟩<;>simp<;>omega)|(simp;omega));conv=>whnf)|((with_reducible refine Wr.quo ?_ ?_ ?_ ?_);omega;omega;omega;conv=>whnf)|((with_reducible refine Wr.inr ?_ ?_);(first|omega|(simp;omega));conv=>whnf)|((with_reducible refine Wr.inu ?_ ?_);omega;conv=>whnf)|(exfalso;first|omega|contradiction)|fail)
  ·obtain ⟨⟨m, hm⟩, n, hn⟩ := hxk (by omega)
   have hne2 : m ≠ n → eqB a b = false := fun h => hne fun e => h (by subst e; exact Option.some.inj (hm.symm.trans hn))
   conv => whnf
   repeat' (first|((refine PickE.map k hn (by omega) ?_);conv=>whnf)|((refine PickE.map k hm (by omega) ?_);conv=>whnf)|((refine PickE.map i hy (by omega) ?_);conv=>whnf)|((refine PickE.map i hx (by omega) ?_);conv=>whnf)|((with_reducible first|refine Split.of_true ?_|refine Split.of_false ?_);conv=>whnf)|(with_reducible refine Split.neg ?_)|((with_reducible refine Split.is_true ?_ ?_);decide;conv=>whnf)|((with_reducible refine Split.is_false ?_ ?_);decide;conv=>whnf)|((with_reducible refine Split.nez (fun _=>?_) (fun _=>?_))<;>conv=>whnf)|((with_reducible refine Split.eqz (fun _=>?_) (fun _=>?_))<;>conv=>whnf)|(with_reducible refine Split.and ?_)|(with_reducible refine Split.or ?_)|((with_reducible refine Split.streq (fun _=>?_) (fun _=>?_))<;>conv=>whnf)|((with_reducible refine Split.dec (fun _=>?_) (fun _=>?_))<;>conv=>whnf)|((with_reducible refine Split.mk (fun _=>?_) (fun _=>?_))<;>conv=>whnf)|((with_reducible refine NilK.mk (fun _=>?_) ?_)<;>conv=>whnf)|((with_reducible refine AltK.l ?_);(conv=>whnf);(with_reducible refine Need.mk ?_ ?_);(first|omega|(refine ⟨?_,?_⟩<;>simp<;>omega)|(simp;omega));conv=>whnf)|((with_reducible refine Need.mk ?_ ?_);(first|omega|rfl|decide|(refine ⟨?_,?_⟩<;>simp<;>omega)|(simp;omega));conv=>whnf)|((with_reducible refine Wr.quo ?_ ?_ ?_ ?_);omega;omega;omega;conv=>whnf)|((with_reducible refine Wr.inr ?_ ?_);(first|omega|(simp;omega));conv=>whnf)|((with_reducible refine Wr.inu ?_ ?_);omega;conv=>whnf)|(exfalso;first|omega|contradiction)|fail)
   ·have e : m = n := mk_ext (by assumption) (by assumption)
    subst e
    exact Again.au (k + 1) ⟨by omega, take_succ_eq hm hn hkt⟩ (by omega) (by refine ⟨?_, ?_, rfl⟩<;>(repeat' (first|exact True.intro|exact rfl|(refine ⟨?_,?_⟩)|(intro h;cases h;done)|(intro h;exact h)|exact map_snoc|(refine own_congr ?_;simp;done)|(refine int_congr ?_;(first|omega|(simp;omega)))|(simp;done)|fail));done)
   all_goals exact congrArg D.bool (hne2 fun e => by subst e; contradiction).symm
  ·have e : x = y := ga_ext (by assumption) (by assumption) (by assumption) (eq_of_take hkt (by omega) (by omega))
   subst e
   exact Again.au (i + 1) ⟨by omega, take_succ_eq hx hy ht⟩ (by omega) (by refine ⟨?_, ?_, rfl⟩<;>(repeat' (first|exact True.intro|exact rfl|(refine ⟨?_,?_⟩)|(intro h;cases h;done)|(intro h;exact h)|exact map_snoc|(refine own_congr ?_;simp;done)|(refine int_congr ?_;(first|omega|(simp;omega)))|(simp;done)|fail));done)
 ·exact congrArg D.bool (eqB_of (eq_of_take ht (by omega) (by omega))).symm
theorem eqB_one {α : Type} (a b : α) : eqB [a] [b] = eqB a b := by
 by_cases h : a = b
 ·rw [eqB_of h, eqB_of (by rw [h])]
 ·rw [eqB_ne h, eqB_ne (by simpa using h)]
theorem ev_same (a b : Ga) (h : a.marks.length < 1000000) : Ev Tryd.prog 11 [gD a, gD b] (.bool (eqB a b)) := by
 have hs := ev_SameGauges [a] [b] (by simp) (by simpa using h)
 rw [eqB_one] at hs
 refine ev_of_awp tysOk mixed (fn := Tryd.f11) Tryd.func11 rfl rfl rfl ?_
 conv => whnf
 repeat' (first|((with_reducible first|refine Split.of_true ?_|refine Split.of_false ?_);conv=>whnf)|(with_reducible refine Split.neg ?_)|((with_reducible refine Split.is_true ?_ ?_);decide;conv=>whnf)|((with_reducible refine Split.is_false ?_ ?_);decide;conv=>whnf)|((with_reducible refine Split.nez (fun _=>?_) (fun _=>?_))<;>conv=>whnf)|((with_reducible refine Split.eqz (fun _=>?_) (fun _=>?_))<;>conv=>whnf)|(with_reducible refine Split.and ?_)|(with_reducible refine Split.or ?_)|((with_reducible refine Split.streq (fun _=>?_) (fun _=>?_))<;>conv=>whnf)|((with_reducible refine Split.dec (fun _=>?_) (fun _=>?_))<;>conv=>whnf)|((with_reducible refine Split.mk (fun _=>?_) (fun _=>?_))<;>conv=>whnf)|((with_reducible refine NilK.mk (fun _=>?_) ?_)<;>conv=>whnf)|((with_reducible refine AltK.l ?_);(conv=>whnf);(with_reducible refine Need.mk ?_ ?_);(first|omega|(refine ⟨?_,?_⟩<;>simp<;>omega)|(simp;omega));conv=>whnf)|((with_reducible refine Need.mk ?_ ?_);(first|omega|rfl|decide|(refine ⟨?_,?_⟩<;>simp<;>omega)|(simp;omega));conv=>whnf)|((with_reducible refine Wr.quo ?_ ?_ ?_ ?_);omega;omega;omega;conv=>whnf)|((with_reducible refine Wr.inr ?_ ?_);(first|omega|(simp;omega));conv=>whnf)|((with_reducible refine Wr.inu ?_ ?_);omega;conv=>whnf)|((with_reducible refine AltK.l ?_);(conv=>whnf);(first|(refine CallK.mk _ (hs) ?_));conv=>whnf)|(exfalso;first|omega|contradiction)|fail)
 rfl
end Go.Proofs.Tryd
end

section
namespace Go.Proofs.Tryd
open Go Go.Vm Go.Plain
set_option maxRecDepth 20000
set_option maxHeartbeats 4000000
theorem ev_TideTexts (g : Ga) : Ev Tryd.prog 3 [gD g] (.bool true) := by
 have h1 := ev_written
 have h2 := ev_Short g
 have h3 := ev_CheckGauge g
 have h4 := ev_CheckGaugeR g
 cases hsh : shortB g with
 | false =>
  rw [hsh] at h2
  refine ev_of_awp tysOk mixed (fn := Tryd.f3) Tryd.func3 rfl rfl rfl ?_
  conv => whnf
  repeat' (first|((with_reducible first|refine Split.of_true ?_|refine Split.of_false ?_);conv=>whnf)|(with_reducible refine Split.neg ?_)|((with_reducible refine Split.is_true ?_ ?_);decide;conv=>whnf)|((with_reducible refine Split.is_false ?_ ?_);decide;conv=>whnf)|((with_reducible refine Split.nez (fun _=>?_) (fun _=>?_))<;>conv=>whnf)|((with_reducible refine Split.eqz (fun _=>?_) (fun _=>?_))<;>conv=>whnf)|(with_reducible refine Split.and ?_)|(with_reducible refine Split.or ?_)|((with_reducible refine Split.streq (fun _=>?_) (fun _=>?_))<;>conv=>whnf)|((with_reducible refine Split.dec (fun _=>?_) (fun _=>?_))<;>conv=>whnf)|((with_reducible refine Split.mk (fun _=>?_) (fun _=>?_))<;>conv=>whnf)|((with_reducible refine NilK.mk (fun _=>?_) ?_)<;>conv=>whnf)|((with_reducible refine AltK.l ?_);(conv=>whnf);(with_reducible refine Need.mk ?_ ?_);(first|omega|(refine ⟨?_,?_⟩<;>simp<;>omega)|(simp;omega));conv=>whnf)|((with_reducible refine Need.mk ?_ ?_);(first|omega|rfl|decide|(refine ⟨?_,?_⟩<;>simp<;>omega)|(simp;omega));conv=>whnf)|((with_reducible refine Wr.quo ?_ ?_ ?_ ?_);omega;omega;omega;conv=>whnf)|((with_reducible refine Wr.inr ?_ ?_);(first|omega|(simp;omega));conv=>whnf)|((with_reducible refine Wr.inu ?_ ?_);omega;conv=>whnf)|((with_reducible refine AltK.l ?_);(conv=>whnf);(first|(refine CallK.mk _ (h1) ?_)|(refine CallK.mk _ (h2) ?_));conv=>whnf)|(exfalso;first|omega|contradiction)|fail)
  rfl
 | true =>
  rw [hsh] at h2
  by_cases h0 : gErr g = 0
  ·have h5 := ev_Print g h0
   have h6 := ev_Parse g h0
   have h7 := ev_PrintR g h0
   have h8 := ev_same g g (by have := (good_of h0).len; omega)
   rw [eqB_self] at h8
   rw [h0] at h3 h4
   refine ev_of_awp tysOk mixed (fn := Tryd.f3) Tryd.func3 rfl rfl rfl ?_
   conv => whnf
   repeat' (first|((with_reducible first|refine Split.of_true ?_|refine Split.of_false ?_);conv=>whnf)|(with_reducible refine Split.neg ?_)|((with_reducible refine Split.is_true ?_ ?_);decide;conv=>whnf)|((with_reducible refine Split.is_false ?_ ?_);decide;conv=>whnf)|((with_reducible refine Split.nez (fun _=>?_) (fun _=>?_))<;>conv=>whnf)|((with_reducible refine Split.eqz (fun _=>?_) (fun _=>?_))<;>conv=>whnf)|(with_reducible refine Split.and ?_)|(with_reducible refine Split.or ?_)|((with_reducible refine Split.streq (fun _=>?_) (fun _=>?_))<;>conv=>whnf)|((with_reducible refine Split.dec (fun _=>?_) (fun _=>?_))<;>conv=>whnf)|((with_reducible refine Split.mk (fun _=>?_) (fun _=>?_))<;>conv=>whnf)|((with_reducible refine NilK.mk (fun _=>?_) ?_)<;>conv=>whnf)|((with_reducible refine AltK.l ?_);(conv=>whnf);(with_reducible refine Need.mk ?_ ?_);(first|omega|(refine ⟨?_,?_⟩<;>simp<;>omega)|(simp;omega));conv=>whnf)|((with_reducible refine Need.mk ?_ ?_);(first|omega|rfl|decide|(refine ⟨?_,?_⟩<;>simp<;>omega)|(simp;omega));conv=>whnf)|((with_reducible refine Wr.quo ?_ ?_ ?_ ?_);omega;omega;omega;conv=>whnf)|((with_reducible refine Wr.inr ?_ ?_);(first|omega|(simp;omega));conv=>whnf)|((with_reducible refine Wr.inu ?_ ?_);omega;conv=>whnf)|((with_reducible refine AltK.l ?_);(conv=>whnf);(first|(refine CallK.mk _ (h1) ?_)|(refine CallK.mk _ (h2) ?_)|(refine CallK.mk _ (h3) ?_)|(refine CallK.mk _ (h4) ?_)|(refine CallK.mk _ (h5) ?_)|(refine CallK.mk _ (h6) ?_)|(refine CallK.mk _ (h7) ?_)|(refine CallK.mk _ (h8) ?_));conv=>whnf)|(exfalso;first|omega|contradiction)|fail)
   all_goals first
    |(exfalso; omega)
    |(simp [retOf]; done)
    | rfl
  ·have h5 := ev_PrintNo g h0
   refine ev_of_awp tysOk mixed (fn := Tryd.f3) Tryd.func3 rfl rfl rfl ?_
   conv => whnf
   repeat' (first|((with_reducible first|refine Split.of_true ?_|refine Split.of_false ?_);conv=>whnf)|(with_reducible refine Split.neg ?_)|((with_reducible refine Split.is_true ?_ ?_);decide;conv=>whnf)|((with_reducible refine Split.is_false ?_ ?_);decide;conv=>whnf)|((with_reducible refine Split.nez (fun _=>?_) (fun _=>?_))<;>conv=>whnf)|((with_reducible refine Split.eqz (fun _=>?_) (fun _=>?_))<;>conv=>whnf)|(with_reducible refine Split.and ?_)|(with_reducible refine Split.or ?_)|((with_reducible refine Split.streq (fun _=>?_) (fun _=>?_))<;>conv=>whnf)|((with_reducible refine Split.dec (fun _=>?_) (fun _=>?_))<;>conv=>whnf)|((with_reducible refine Split.mk (fun _=>?_) (fun _=>?_))<;>conv=>whnf)|((with_reducible refine NilK.mk (fun _=>?_) ?_)<;>conv=>whnf)|((with_reducible refine AltK.l ?_);(conv=>whnf);(with_reducible refine Need.mk ?_ ?_);(first|omega|(refine ⟨?_,?_⟩<;>simp<;>omega)|(simp;omega));conv=>whnf)|((with_reducible refine Need.mk ?_ ?_);(first|omega|rfl|decide|(refine ⟨?_,?_⟩<;>simp<;>omega)|(simp;omega));conv=>whnf)|((with_reducible refine Wr.quo ?_ ?_ ?_ ?_);omega;omega;omega;conv=>whnf)|((with_reducible refine Wr.inr ?_ ?_);(first|omega|(simp;omega));conv=>whnf)|((with_reducible refine Wr.inu ?_ ?_);omega;conv=>whnf)|((with_reducible refine AltK.l ?_);(conv=>whnf);(first|(refine CallK.mk _ (h1) ?_)|(refine CallK.mk _ (h2) ?_)|(refine CallK.mk _ (h3) ?_)|(refine CallK.mk _ (h4) ?_)|(refine CallK.mk _ (h5) ?_));conv=>whnf)|(exfalso;first|omega|contradiction)|fail)
   all_goals first
    |(exfalso; omega)
    |(simp [retOf]; done)
    | rfl
end Go.Proofs.Tryd
end
