/- Texts DmJ DmK DqA DmL TwZ DqZ DmM, joined; what is not needed is left out. -/
import Derived.BigFrame
import Derived.Test.YtnnknecjjfjolaaMgI
import Derived.Test.YtnnknecjjfjolaaProg
import Derived.Test.YtnnknecjjfjolaaMgH
import Derived.LoopN
import Derived.Test.YtnnknecjjfjolaaMgJ
import Derived.Test.YtnnknecjjfjolaaMpa
section
namespace Go.Proofs.Try
open Go Go.Vm
set_option maxRecDepth 40000
set_option maxHeartbeats 8000000
noncomputable def lawX : Code := cI (cL (cR (cR lawB)))
noncomputable def lawO : Code := cR (cR lawX)
def rndT (k : Int) (p q : RwM) (n : Nat) : List (Nat × AV) := [(2, .ptr 2 0), (5, .ptr 5 0), (11, .own 61 3 n), (66, .agg [.own 47 6 p.l.length, .own 2047 3 p.b.length, .own 4047 3 p.d.length, .own 6047 1 p.c.length, .own 55 6 q.l.length, .own 2055 3 q.b.length, .own 4055 3 q.d.length, .own 6055 1 q.c.length]), (67, .d (.int .i64 k))]
def rndS (y : Yd) (k : Int) (p q p' q' : RwM) (vx vy : Nat) (l : List Dp) : St := ⟨rndT k p q l.length,
 [(2, .var [.d (.sl 6 (y.pits.map ptD)), .d (.sl 3 (y.bulk.map bkD)), .d (.sl 3 (y.deps.map dpD)), .d (.sl 1 (y.carry.map iD))] false),
  (5, .var [.d (.sl 6 (y.pits.map ptD)), .d (.sl 3 (y.bulk.map bkD)), .d (.sl 3 (y.deps.map dpD)), .d (.sl 1 (y.carry.map iD))] false),
  (47, .shp vx p'.l.length (PitShape p'.l)), (2047, .row 45 3 (p'.b.map bkD) false), (4047, .row 47 3 (p'.d.map dpD) false), (6047, .row 3 1 (p'.c.map iD) false),
  (55, .shp vy q'.l.length (PitShape q'.l)), (2055, .row 45 3 (q'.b.map bkD) false), (4055, .row 47 3 (q'.d.map dpD) false), (6055, .row 3 1 (q'.c.map iD) false),
  (61, .row 47 3 (l.map dpD) false)]⟩
theorem oth_walk1 (y : Yd) (l : List Dp) (vx vy : Nat) (k : Int) (p q p' q' : RwM) (ho : p.ok p') (hb : p.b.length ≤ 1000000) (hd : p.d.length ≤ 1000000) (hc : p.c.length ≤ 1000000) :
 awp Try.prog Try.S 150 lawO (onlyN fun σ => ∃ p2, p.ok p2 ∧ Le σ (rndS y k p q p2 q' vx vy l) [])
  ⟨(14, .ptr 14 0) :: rndT k p q l.length, (14, .var [.own 47 6 p.l.length, .own 2047 3 p.b.length, .own 4047 3 p.d.length, .own 6047 1 p.c.length] false) :: (rndS y k p q p' q' vx vy l).bx⟩ := by
 obtain ⟨o1, o2, o3, o4⟩ := ho
 have h1 : (p'.b.map bkD).length = p.b.length := by rw [List.length_map]; exact o2
 have h2 : (p'.d.map dpD).length = p.d.length := by rw [List.length_map]; exact o3
 have h3 : (p'.c.map iD).length = p.c.length := by rw [List.length_map]; exact o4
 unfold lawO lawX lawB lawC rndS rndT
 conv => whnf
 skip
 all_goals try (exfalso; omega)
 refine LoopK.o2 (fun r : Nat × List Bk => r.1 ≤ p.b.length ∧ r.2.length = p.b.length) (fun r => [(17, .d (.int .i64 r.1))]) (fun r => [(2047, .row 45 3 (r.2.map bkD) false)]) (fun r => p.b.length - r.1) (0, p'.b) ⟨Nat.zero_le _, o2⟩ (by refine ⟨?_, ?_, rfl⟩<;>(repeat' (first|exact True.intro|exact rfl|(refine ⟨?_,?_⟩)|(intro h;cases h;done)|fail));done) ?_
 rintro ⟨i, bs⟩ ⟨hi, hbs⟩
 have hi : i ≤ p.b.length := hi
 have hbs : bs.length = p.b.length := hbs
 have h2' : (bs.map bkD).length = bs.length := List.length_map _
 by_cases hil : i < p.b.length
 ·obtain ⟨z, hz⟩ := some_of_lt (l := bs) (i := i) (by omega)
  have hmp1 : (bs.map bkD).set i (.agg [.str ⟨#[55, 55]⟩, iD z.num, iD z.den]) = (bs.set i ⟨⟨#[55, 55]⟩, z.num, z.den⟩).map bkD := by rw [List.map_set]; rfl
  conv => whnf
  repeat' (first|((refine PickE.map i hz (by omega) ?_);conv=>whnf)|((with_reducible refine Split.dec (fun _=>?_) (fun _=>?_))<;>conv=>whnf)|((with_reducible refine Need.mk ?_ ?_);(first|omega|rfl|decide|(refine ⟨?_,?_⟩<;>simp<;>omega)|(simp;omega));conv=>whnf)|((with_reducible refine Wr.inr ?_ ?_);(first|omega|(simp;omega));conv=>whnf)|fail)
  all_goals first
   |(exfalso; dsimp only at *; omega)
   | exact Again.au (i + 1, bs.set i ⟨⟨#[55, 55]⟩, z.num, z.den⟩) ⟨by show i + 1 ≤ _;omega, by show (bs.set _ _).length = _;rw [List.length_set];exact hbs⟩ (by show p.b.length - (i + 1) < p.b.length - i;omega) (by refine ⟨?_, ?_, rfl⟩<;>(repeat' (first|exact True.intro|exact rfl|(refine ⟨?_,?_⟩)|(intro h;cases h;done)|exact hmp1|fail));done)
 ·conv => whnf
  repeat' (first|((with_reducible refine Split.dec (fun _=>?_) (fun _=>?_))<;>conv=>whnf)|((with_reducible refine Need.mk ?_ ?_);(first|omega|rfl|decide|(refine ⟨?_,?_⟩<;>simp<;>omega)|(simp;omega));conv=>whnf)|fail)
  all_goals try (exfalso; dsimp only at *; omega)
  refine LoopK.o2 (fun r : Nat × List Dp => r.1 ≤ p.d.length ∧ r.2.length = p.d.length) (fun r => [(18, .d (.int .i64 r.1))]) (fun r => [(4047, .row 47 3 (r.2.map dpD) false)]) (fun r => p.d.length - r.1) (0, p'.d) ⟨Nat.zero_le _, o3⟩ (by refine ⟨?_, ?_, rfl⟩<;>(repeat' (first|exact True.intro|exact rfl|(refine ⟨?_,?_⟩)|(intro h;cases h;done)|fail));done) ?_
  rintro ⟨j, ds⟩ ⟨hj, hds⟩
  have hj : j ≤ p.d.length := hj
  have hds : ds.length = p.d.length := hds
  have h3' : (ds.map dpD).length = ds.length := List.length_map _
  by_cases hjl : j < p.d.length
  ·obtain ⟨d, hd0⟩ := some_of_lt (l := ds) (i := j) (by omega)
   have hmp1 : (ds.map dpD).set j (.agg [iD d.batch, .str d.pit, .int .i64 77]) = (ds.set j ⟨d.batch, d.pit, 77⟩).map dpD := by rw [List.map_set]; rfl
   conv => whnf
   repeat' (first|((refine PickE.map j hd0 (by omega) ?_);conv=>whnf)|((with_reducible refine Split.dec (fun _=>?_) (fun _=>?_))<;>conv=>whnf)|((with_reducible refine Need.mk ?_ ?_);(first|omega|rfl|decide|(refine ⟨?_,?_⟩<;>simp<;>omega)|(simp;omega));conv=>whnf)|((with_reducible refine Wr.inr ?_ ?_);(first|omega|(simp;omega));conv=>whnf)|fail)
   all_goals first
    |(exfalso; dsimp only at *; omega)
    | exact Again.au (j + 1, ds.set j ⟨d.batch, d.pit, 77⟩) ⟨by show j + 1 ≤ _;omega, by show (ds.set _ _).length = _;rw [List.length_set];exact hds⟩ (by show p.d.length - (j + 1) < p.d.length - j;omega) (by refine ⟨?_, ?_, rfl⟩<;>(repeat' (first|exact True.intro|exact rfl|(refine ⟨?_,?_⟩)|(intro h;cases h;done)|exact hmp1|fail));done)
  ·conv => whnf
   repeat' (first|((with_reducible refine Split.dec (fun _=>?_) (fun _=>?_))<;>conv=>whnf)|((with_reducible refine Need.mk ?_ ?_);(first|omega|rfl|decide|(refine ⟨?_,?_⟩<;>simp<;>omega)|(simp;omega));conv=>whnf)|fail)
   all_goals try (exfalso; dsimp only at *; omega)
   refine LoopK.o2 (fun r : Nat × List Int => r.1 ≤ p.c.length ∧ r.2.length = p.c.length) (fun r => [(19, .d (.int .i64 r.1))]) (fun r => [(6047, .row 3 1 (r.2.map iD) false)]) (fun r => p.c.length - r.1) (0, p'.c) ⟨Nat.zero_le _, o4⟩ (by refine ⟨?_, ?_, rfl⟩<;>(repeat' (first|exact True.intro|exact rfl|(refine ⟨?_,?_⟩)|(intro h;cases h;done)|fail));done) ?_
   rintro ⟨m, cs⟩ ⟨hm, hcs⟩
   have hm : m ≤ p.c.length := hm
   have hcs : cs.length = p.c.length := hcs
   have h4' : (cs.map iD).length = cs.length := List.length_map _
   by_cases hml : m < p.c.length
   ·obtain ⟨c, hc0⟩ := some_of_lt (l := cs) (i := m) (by omega)
    have hmp1 : (cs.map iD).set m (.int .i64 77) = (cs.set m 77).map iD := by rw [List.map_set]; rfl
    conv => whnf
    repeat' (first|((refine PickE.map m hc0 (by omega) ?_);conv=>whnf)|((with_reducible refine Split.dec (fun _=>?_) (fun _=>?_))<;>conv=>whnf)|((with_reducible refine Need.mk ?_ ?_);(first|omega|rfl|decide|(refine ⟨?_,?_⟩<;>simp<;>omega)|(simp;omega));conv=>whnf)|((with_reducible refine Wr.inr ?_ ?_);(first|omega|(simp;omega));conv=>whnf)|fail)
    all_goals first
     |(exfalso; dsimp only at *; omega)
     | exact Again.au (m + 1, cs.set m 77) ⟨by show m + 1 ≤ _;omega, by show (cs.set _ _).length = _;rw [List.length_set];exact hcs⟩ (by show p.c.length - (m + 1) < p.c.length - m;omega) (by refine ⟨?_, ?_, rfl⟩<;>(repeat' (first|exact True.intro|exact rfl|(refine ⟨?_,?_⟩)|(intro h;cases h;done)|exact hmp1|fail));done)
   ·conv => whnf
    repeat' (first|((with_reducible refine Split.dec (fun _=>?_) (fun _=>?_))<;>conv=>whnf)|((with_reducible refine Need.mk ?_ ?_);(first|omega|rfl|decide|(refine ⟨?_,?_⟩<;>simp<;>omega)|(simp;omega));conv=>whnf)|fail)
    all_goals try (exfalso; dsimp only at *; omega)
    refine ⟨⟨p'.l, bs, ds, cs⟩, ⟨o1, hbs, hds, hcs⟩, ?_⟩
    exact (by refine ⟨?_, ?_, rfl⟩<;>(repeat' (first|exact True.intro|exact rfl|(refine ⟨?_,?_⟩)|(intro h;cases h;done)|fail));done)
theorem oth_walk2 (y : Yd) (l : List Dp) (vx vy : Nat) (k : Int) (p q p' q' : RwM) (ho : q.ok q') (hb : q.b.length ≤ 1000000) (hd : q.d.length ≤ 1000000) (hc : q.c.length ≤ 1000000) :
 awp Try.prog Try.S 150 lawO (onlyN fun σ => ∃ q2, q.ok q2 ∧ Le σ (rndS y k p q p' q2 vx vy l) [])
  ⟨(14, .ptr 14 0) :: rndT k p q l.length, (14, .var [.own 55 6 q.l.length, .own 2055 3 q.b.length, .own 4055 3 q.d.length, .own 6055 1 q.c.length] false) :: (rndS y k p q p' q' vx vy l).bx⟩ := by
 obtain ⟨o1, o2, o3, o4⟩ := ho
 have h1 : (q'.b.map bkD).length = q.b.length := by rw [List.length_map]; exact o2
 have h2 : (q'.d.map dpD).length = q.d.length := by rw [List.length_map]; exact o3
 have h3 : (q'.c.map iD).length = q.c.length := by rw [List.length_map]; exact o4
 unfold lawO lawX lawB lawC rndS rndT
 conv => whnf
 skip
 all_goals try (exfalso; omega)
 refine LoopK.o2 (fun r : Nat × List Bk => r.1 ≤ q.b.length ∧ r.2.length = q.b.length) (fun r => [(17, .d (.int .i64 r.1))]) (fun r => [(2055, .row 45 3 (r.2.map bkD) false)]) (fun r => q.b.length - r.1) (0, q'.b) ⟨Nat.zero_le _, o2⟩ (by refine ⟨?_, ?_, rfl⟩<;>(repeat' (first|exact True.intro|exact rfl|(refine ⟨?_,?_⟩)|(intro h;cases h;done)|fail));done) ?_
 rintro ⟨i, bs⟩ ⟨hi, hbs⟩
 have hi : i ≤ q.b.length := hi
 have hbs : bs.length = q.b.length := hbs
 have h2' : (bs.map bkD).length = bs.length := List.length_map _
 by_cases hil : i < q.b.length
 ·obtain ⟨z, hz⟩ := some_of_lt (l := bs) (i := i) (by omega)
  have hmp1 : (bs.map bkD).set i (.agg [.str ⟨#[55, 55]⟩, iD z.num, iD z.den]) = (bs.set i ⟨⟨#[55, 55]⟩, z.num, z.den⟩).map bkD := by rw [List.map_set]; rfl
  conv => whnf
  repeat' (first|((refine PickE.map i hz (by omega) ?_);conv=>whnf)|((with_reducible refine Split.dec (fun _=>?_) (fun _=>?_))<;>conv=>whnf)|((with_reducible refine Need.mk ?_ ?_);(first|omega|rfl|decide|(refine ⟨?_,?_⟩<;>simp<;>omega)|(simp;omega));conv=>whnf)|((with_reducible refine Wr.inr ?_ ?_);(first|omega|(simp;omega));conv=>whnf)|fail)
  all_goals first
   |(exfalso; dsimp only at *; omega)
   | exact Again.au (i + 1, bs.set i ⟨⟨#[55, 55]⟩, z.num, z.den⟩) ⟨by show i + 1 ≤ _;omega, by show (bs.set _ _).length = _;rw [List.length_set];exact hbs⟩ (by show q.b.length - (i + 1) < q.b.length - i;omega) (by refine ⟨?_, ?_, rfl⟩<;>(repeat' (first|exact True.intro|exact rfl|(refine ⟨?_,?_⟩)|(intro h;cases h;done)|exact hmp1|fail));done)
 ·conv => whnf
  repeat' (first|((with_reducible refine Split.dec (fun _=>?_) (fun _=>?_))<;>conv=>whnf)|((with_reducible refine Need.mk ?_ ?_);(first|omega|rfl|decide|(refine ⟨?_,?_⟩<;>simp<;>omega)|(simp;omega));conv=>whnf)|fail)
  all_goals try (exfalso; dsimp only at *; omega)
  refine LoopK.o2 (fun r : Nat × List Dp => r.1 ≤ q.d.length ∧ r.2.length = q.d.length) (fun r => [(18, .d (.int .i64 r.1))]) (fun r => [(4055, .row 47 3 (r.2.map dpD) false)]) (fun r => q.d.length - r.1) (0, q'.d) ⟨Nat.zero_le _, o3⟩ (by refine ⟨?_, ?_, rfl⟩<;>(repeat' (first|exact True.intro|exact rfl|(refine ⟨?_,?_⟩)|(intro h;cases h;done)|fail));done) ?_
  rintro ⟨j, ds⟩ ⟨hj, hds⟩
  have hj : j ≤ q.d.length := hj
  have hds : ds.length = q.d.length := hds
  have h3' : (ds.map dpD).length = ds.length := List.length_map _
  by_cases hjl : j < q.d.length
  ·obtain ⟨d, hd0⟩ := some_of_lt (l := ds) (i := j) (by omega)
   have hmp1 : (ds.map dpD).set j (.agg [iD d.batch, .str d.pit, .int .i64 77]) = (ds.set j ⟨d.batch, d.pit, 77⟩).map dpD := by rw [List.map_set]; rfl
   conv => whnf
   repeat' (first|((refine PickE.map j hd0 (by omega) ?_);conv=>whnf)|((with_reducible refine Split.dec (fun _=>?_) (fun _=>?_))<;>conv=>whnf)|((with_reducible refine Need.mk ?_ ?_);(first|omega|rfl|decide|(refine ⟨?_,?_⟩<;>simp<;>omega)|(simp;omega));conv=>whnf)|((with_reducible refine Wr.inr ?_ ?_);(first|omega|(simp;omega));conv=>whnf)|fail)
   all_goals first
    |(exfalso; dsimp only at *; omega)
    | exact Again.au (j + 1, ds.set j ⟨d.batch, d.pit, 77⟩) ⟨by show j + 1 ≤ _;omega, by show (ds.set _ _).length = _;rw [List.length_set];exact hds⟩ (by show q.d.length - (j + 1) < q.d.length - j;omega) (by refine ⟨?_, ?_, rfl⟩<;>(repeat' (first|exact True.intro|exact rfl|(refine ⟨?_,?_⟩)|(intro h;cases h;done)|exact hmp1|fail));done)
  ·conv => whnf
   repeat' (first|((with_reducible refine Split.dec (fun _=>?_) (fun _=>?_))<;>conv=>whnf)|((with_reducible refine Need.mk ?_ ?_);(first|omega|rfl|decide|(refine ⟨?_,?_⟩<;>simp<;>omega)|(simp;omega));conv=>whnf)|fail)
   all_goals try (exfalso; dsimp only at *; omega)
   refine LoopK.o2 (fun r : Nat × List Int => r.1 ≤ q.c.length ∧ r.2.length = q.c.length) (fun r => [(19, .d (.int .i64 r.1))]) (fun r => [(6055, .row 3 1 (r.2.map iD) false)]) (fun r => q.c.length - r.1) (0, q'.c) ⟨Nat.zero_le _, o4⟩ (by refine ⟨?_, ?_, rfl⟩<;>(repeat' (first|exact True.intro|exact rfl|(refine ⟨?_,?_⟩)|(intro h;cases h;done)|fail));done) ?_
   rintro ⟨m, cs⟩ ⟨hm, hcs⟩
   have hm : m ≤ q.c.length := hm
   have hcs : cs.length = q.c.length := hcs
   have h4' : (cs.map iD).length = cs.length := List.length_map _
   by_cases hml : m < q.c.length
   ·obtain ⟨c, hc0⟩ := some_of_lt (l := cs) (i := m) (by omega)
    have hmp1 : (cs.map iD).set m (.int .i64 77) = (cs.set m 77).map iD := by rw [List.map_set]; rfl
    conv => whnf
    repeat' (first|((refine PickE.map m hc0 (by omega) ?_);conv=>whnf)|((with_reducible refine Split.dec (fun _=>?_) (fun _=>?_))<;>conv=>whnf)|((with_reducible refine Need.mk ?_ ?_);(first|omega|rfl|decide|(refine ⟨?_,?_⟩<;>simp<;>omega)|(simp;omega));conv=>whnf)|((with_reducible refine Wr.inr ?_ ?_);(first|omega|(simp;omega));conv=>whnf)|fail)
    all_goals first
     |(exfalso; dsimp only at *; omega)
     | exact Again.au (m + 1, cs.set m 77) ⟨by show m + 1 ≤ _;omega, by show (cs.set _ _).length = _;rw [List.length_set];exact hcs⟩ (by show q.c.length - (m + 1) < q.c.length - m;omega) (by refine ⟨?_, ?_, rfl⟩<;>(repeat' (first|exact True.intro|exact rfl|(refine ⟨?_,?_⟩)|(intro h;cases h;done)|exact hmp1|fail));done)
   ·conv => whnf
    repeat' (first|((with_reducible refine Split.dec (fun _=>?_) (fun _=>?_))<;>conv=>whnf)|((with_reducible refine Need.mk ?_ ?_);(first|omega|rfl|decide|(refine ⟨?_,?_⟩<;>simp<;>omega)|(simp;omega));conv=>whnf)|fail)
    all_goals try (exfalso; dsimp only at *; omega)
    refine ⟨⟨q'.l, bs, ds, cs⟩, ⟨o1, hbs, hds, hcs⟩, ?_⟩
    exact (by refine ⟨?_, ?_, rfl⟩<;>(repeat' (first|exact True.intro|exact rfl|(refine ⟨?_,?_⟩)|(intro h;cases h;done)|fail));done)
end Go.Proofs.Try
end

section
namespace Go.Proofs.Try
open Go Go.Vm
set_option maxRecDepth 40000
set_option maxHeartbeats 8000000
def inS (x : List AV) (σ : St) : St := ⟨(14, .ptr 14 0) :: σ.T, (14, .var x false) :: σ.bx⟩
theorem round1 {Q : Exit → Act → World → Prop} {e : Ent} {A0 : Sta} {a : Act} {w : World} (y : Yd) (l : List Dp) (vx vy : Nat) (p q p' q' : RwM) (ho : p.ok p') (hp : p.le) (hr : Rel e A0 150 (rndS y 0 p q p' q' vx vy l) a w)
 (hQ : ∀ z a' w', p.ok z → Rel e A0 150 (rndS y 1 p q z q' vx vy l) a' w' → Q .normal a' w') : lawB.wp Try.prog Q a w := by
 refine wp_pre tysOk mixed (K := fun σ => Le σ (rndS y 0 p q p' q' vx vy l) []) 2 (σ := (rndS y 0 p q p' q' vx vy l)) ?_ hr ?_
 ·unfold lawB lawC rndS rndT
  conv => whnf
  repeat' (first|((with_reducible refine Split.is_true ?_ ?_);decide;conv=>whnf)|fail)
  exact (by refine ⟨?_, ?_, rfl⟩<;>(repeat' (first|exact True.intro|exact rfl|(refine ⟨?_,?_⟩)|(intro h;cases h;done)|fail));done)
 intro σ a w hr hle
 have hr := le_sound hle hr
 refine wp_seq (wp_block ?_)
 refine wp_piece tysOk mixed (K := fun σ => Le σ (inS [.own 47 6 p.l.length, .own 2047 3 p.b.length, .own 4047 3 p.d.length, .own 6047 1 p.c.length] (rndS y 0 p q p' q' vx vy l)) []) (σ := (rndS y 0 p q p' q' vx vy l)) ?_ hr ?_
 ·unfold rndS rndT inS
  conv => whnf
  repeat' (first|((with_reducible refine Need.mk ?_ ?_);(first|omega|rfl|decide|(refine ⟨?_,?_⟩<;>simp<;>omega)|(simp;omega));conv=>whnf)|fail)
  exact (by refine ⟨?_, ?_, rfl⟩<;>(repeat' (first|exact True.intro|exact rfl|(refine ⟨?_,?_⟩)|(intro h;cases h;done)|fail));done)
 intro σ a w hr hle
 have hr := le_sound hle hr
 refine wp_seq (wp_piece tysOk mixed (K := fun σ => Le σ ⟨(15, .d (.int .i64 0)) :: (inS [.own 47 6 p.l.length, .own 2047 3 p.b.length, .own 4047 3 p.d.length, .own 6047 1 p.c.length] (rndS y 0 p q p' q' vx vy l)).T, (inS [.own 47 6 p.l.length, .own 2047 3 p.b.length, .own 4047 3 p.d.length, .own 6047 1 p.c.length] (rndS y 0 p q p' q' vx vy l)).bx⟩ []) (σ := inS [.own 47 6 p.l.length, .own 2047 3 p.b.length, .own 4047 3 p.d.length, .own 6047 1 p.c.length] (rndS y 0 p q p' q' vx vy l)) ?_ hr ?_)
 ·unfold rndS rndT inS
  conv => whnf
  skip
  exact (by refine ⟨?_, ?_, rfl⟩<;>(repeat' (first|exact True.intro|exact rfl|(refine ⟨?_,?_⟩)|(intro h;cases h;done)|fail));done)
 intro σ a w hr hle
 have hr := le_sound hle hr
 have hl : p'.l = p.l := ho.1
 refine pits_walk (b := 47) (v := vx) (lens := p'.l) hr rfl rfl (by rw [hl]; rfl) rfl (by rw [hl]; exact hp.l) (by rw [hl]; exact hp.m) fun a w hr => ?_
 refine awp_sound tysOk mixed lawO (oth_walk1 y l vx vy 0 p q p' q' ho hp.b hp.d hp.c) (le_sound (rn := []) ?_ hr) fun x σ a w hr hk => ?_
 ·unfold rndS rndT inS
  exact (by refine ⟨?_, ?_, rfl⟩<;>(repeat' (first|exact True.intro|exact rfl|(refine ⟨?_,?_⟩)|(intro h;cases h;done)|fail));done)
 cases x with
 | ret => cases hk
 | exit i => cases hk
 | normal =>
 obtain ⟨z, hz, hle⟩ := hk
 have hr := le_sound hle hr
 refine awp_sound tysOk mixed _ (K := onlyN fun σ => Le σ (rndS y 1 p q z q' vx vy l) []) (σ := rndS y 0 p q z q' vx vy l) ?_ hr fun x σ a w hr hk => ?_
 ·unfold rndS rndT
  conv => whnf
  repeat' (first|((with_reducible refine Wr.inr ?_ ?_);(first|omega|(simp;omega));conv=>whnf)|fail)
  exact (by refine ⟨?_, ?_, rfl⟩<;>(repeat' (first|exact True.intro|exact rfl|(refine ⟨?_,?_⟩)|(intro h;cases h;done)|fail));done)
 cases x with
 | ret => cases hk
 | exit i => cases hk
 | normal => exact hQ z a w hz (le_sound hk hr)
theorem round2 {Q : Exit → Act → World → Prop} {e : Ent} {A0 : Sta} {a : Act} {w : World} (y : Yd) (l : List Dp) (vx vy : Nat) (p q p' q' : RwM) (ho : q.ok q') (hp : q.le) (hr : Rel e A0 150 (rndS y 1 p q p' q' vx vy l) a w)
 (hQ : ∀ z a' w', q.ok z → Rel e A0 150 (rndS y 2 p q p' z vx vy l) a' w' → Q .normal a' w') : lawB.wp Try.prog Q a w := by
 refine wp_pre tysOk mixed (K := fun σ => Le σ (rndS y 1 p q p' q' vx vy l) []) 2 (σ := (rndS y 1 p q p' q' vx vy l)) ?_ hr ?_
 ·unfold lawB lawC rndS rndT
  conv => whnf
  repeat' (first|((with_reducible refine Split.is_true ?_ ?_);decide;conv=>whnf)|fail)
  exact (by refine ⟨?_, ?_, rfl⟩<;>(repeat' (first|exact True.intro|exact rfl|(refine ⟨?_,?_⟩)|(intro h;cases h;done)|fail));done)
 intro σ a w hr hle
 have hr := le_sound hle hr
 refine wp_seq (wp_block ?_)
 refine wp_piece tysOk mixed (K := fun σ => Le σ (inS [.own 55 6 q.l.length, .own 2055 3 q.b.length, .own 4055 3 q.d.length, .own 6055 1 q.c.length] (rndS y 1 p q p' q' vx vy l)) []) (σ := (rndS y 1 p q p' q' vx vy l)) ?_ hr ?_
 ·unfold rndS rndT inS
  conv => whnf
  repeat' (first|((with_reducible refine Need.mk ?_ ?_);(first|omega|rfl|decide|(refine ⟨?_,?_⟩<;>simp<;>omega)|(simp;omega));conv=>whnf)|fail)
  exact (by refine ⟨?_, ?_, rfl⟩<;>(repeat' (first|exact True.intro|exact rfl|(refine ⟨?_,?_⟩)|(intro h;cases h;done)|fail));done)
 intro σ a w hr hle
 have hr := le_sound hle hr
 refine wp_seq (wp_piece tysOk mixed (K := fun σ => Le σ ⟨(15, .d (.int .i64 0)) :: (inS [.own 55 6 q.l.length, .own 2055 3 q.b.length, .own 4055 3 q.d.length, .own 6055 1 q.c.length] (rndS y 1 p q p' q' vx vy l)).T, (inS [.own 55 6 q.l.length, .own 2055 3 q.b.length, .own 4055 3 q.d.length, .own 6055 1 q.c.length] (rndS y 1 p q p' q' vx vy l)).bx⟩ []) (σ := inS [.own 55 6 q.l.length, .own 2055 3 q.b.length, .own 4055 3 q.d.length, .own 6055 1 q.c.length] (rndS y 1 p q p' q' vx vy l)) ?_ hr ?_)
 ·unfold rndS rndT inS
  conv => whnf
  skip
  exact (by refine ⟨?_, ?_, rfl⟩<;>(repeat' (first|exact True.intro|exact rfl|(refine ⟨?_,?_⟩)|(intro h;cases h;done)|fail));done)
 intro σ a w hr hle
 have hr := le_sound hle hr
 have hl : q'.l = q.l := ho.1
 refine pits_walk (b := 55) (v := vy) (lens := q'.l) hr rfl rfl (by rw [hl]; rfl) rfl (by rw [hl]; exact hp.l) (by rw [hl]; exact hp.m) fun a w hr => ?_
 refine awp_sound tysOk mixed lawO (oth_walk2 y l vx vy 1 p q p' q' ho hp.b hp.d hp.c) (le_sound (rn := []) ?_ hr) fun x σ a w hr hk => ?_
 ·unfold rndS rndT inS
  exact (by refine ⟨?_, ?_, rfl⟩<;>(repeat' (first|exact True.intro|exact rfl|(refine ⟨?_,?_⟩)|(intro h;cases h;done)|fail));done)
 cases x with
 | ret => cases hk
 | exit i => cases hk
 | normal =>
 obtain ⟨z, hz, hle⟩ := hk
 have hr := le_sound hle hr
 refine awp_sound tysOk mixed _ (K := onlyN fun σ => Le σ (rndS y 2 p q p' z vx vy l) []) (σ := rndS y 1 p q p' z vx vy l) ?_ hr fun x σ a w hr hk => ?_
 ·unfold rndS rndT
  conv => whnf
  repeat' (first|((with_reducible refine Wr.inr ?_ ?_);(first|omega|(simp;omega));conv=>whnf)|fail)
  exact (by refine ⟨?_, ?_, rfl⟩<;>(repeat' (first|exact True.intro|exact rfl|(refine ⟨?_,?_⟩)|(intro h;cases h;done)|fail));done)
 cases x with
 | ret => cases hk
 | exit i => cases hk
 | normal => exact hQ z a w hz (le_sound hk hr)
theorem round3 {Q : Exit → Act → World → Prop} {e : Ent} {A0 : Sta} {a : Act} {w : World} (y : Yd) (l : List Dp) (vx vy : Nat) (p q p' q' : RwM) (hr : Rel e A0 150 (rndS y 2 p q p' q' vx vy l) a w)
 (hQ : ∀ a' w', Rel e A0 150 (rndS y 2 p q p' q' vx vy l) a' w' → Q (.exit 0) a' w') : lawB.wp Try.prog Q a w := by
 refine awp_sound tysOk mixed lawB (K := fun e σ => match e with
  | .exit i => i = 0 ∧ Le σ (rndS y 2 p q p' q' vx vy l) []
  | _ => False) (σ := rndS y 2 p q p' q' vx vy l) ?_ hr fun x σ a w hr hk => ?_
 ·unfold lawB lawC rndS rndT
  conv => whnf
  repeat' (first|((with_reducible refine Split.is_false ?_ ?_);decide;conv=>whnf)|fail)
  exact ⟨rfl, (by refine ⟨?_, ?_, rfl⟩<;>(repeat' (first|exact True.intro|exact rfl|(refine ⟨?_,?_⟩)|(intro h;cases h;done)|fail));done)⟩
 cases x with
 | ret => cases hk
 | normal => cases hk
 | exit i =>
  obtain ⟨rfl, hle⟩ := hk
  exact hQ a w (le_sound hle hr)
end Go.Proofs.Try
end

section
namespace Go.Proofs.Try
open Go Go.Vm
set_option maxRecDepth 20000
set_option maxHeartbeats 8000000
theorem eqB_self9 {α : Type} (a : α) : eqB a a = true := by simp [eqB]
theorem ev_SameSelf (y : Yd) (h1 : y.pits.length ≤ 1000000) (h2 : y.bulk.length ≤ 1000000) (h3 : y.deps.length ≤ 1000000) (h4 : y.carry.length ≤ 1000000) (hc : ∀ p ∈ y.pits, p.cls.length ≤ 1000000) : Ev Try.prog 10 [ydD y, ydD y] (.bool true) := by
 have hlp : (y.pits.map ptD).length = y.pits.length := List.length_map _
 have hlb : (y.bulk.map bkD).length = y.bulk.length := List.length_map _
 have w1 := ev_Ints9 y.carry y.carry h4
 have w2 := ev_deposits9 y.deps y.deps h3
 rw [eqB_self9] at w1 w2
 refine ev_of_awp tysOk mixed (fn := Try.f10) Try.func10 rfl rfl rfl ?_
 conv => whnf
 repeat' (first|((with_reducible first|refine Split.of_true ?_|refine Split.of_false ?_);conv=>whnf)|(with_reducible refine Split.neg ?_)|((with_reducible refine Split.is_true ?_ ?_);decide;conv=>whnf)|((with_reducible refine Split.is_false ?_ ?_);decide;conv=>whnf)|((with_reducible refine Split.nez (fun _=>?_) (fun _=>?_))<;>conv=>whnf)|((with_reducible refine Split.eqz (fun _=>?_) (fun _=>?_))<;>conv=>whnf)|(with_reducible refine Split.and ?_)|(with_reducible refine Split.or ?_)|((with_reducible refine Split.streq (fun _=>?_) (fun _=>?_))<;>conv=>whnf)|((with_reducible refine Split.dec (fun _=>?_) (fun _=>?_))<;>conv=>whnf)|((with_reducible refine Split.mk (fun _=>?_) (fun _=>?_))<;>conv=>whnf)|((with_reducible refine NilK.mk (fun _=>?_) ?_)<;>conv=>whnf)|((with_reducible refine AltK.l ?_);(conv=>whnf);(with_reducible refine Need.mk ?_ ?_);(first|omega|(refine ⟨?_,?_⟩<;>simp<;>omega)|(simp;omega));conv=>whnf)|((with_reducible refine Need.mk ?_ ?_);(first|omega|rfl|decide|(refine ⟨?_,?_⟩<;>simp<;>omega)|(simp;omega));conv=>whnf)|((with_reducible refine Wr.quo ?_ ?_ ?_ ?_);omega;omega;omega;conv=>whnf)|((with_reducible refine Wr.inr ?_ ?_);(first|omega|(simp;omega));conv=>whnf)|((with_reducible refine Wr.inu ?_ ?_);omega;conv=>whnf)|((with_reducible refine AltK.l ?_);(conv=>whnf);(first|(refine CallK.mk _ (w1) ?_)|(refine CallK.mk _ (w2) ?_));conv=>whnf)|(exfalso;first|omega|contradiction)|fail)
 refine LoopK.o2 (fun i : Nat => i ≤ y.pits.length) (fun i => [(5, .d (.int .i64 i))]) (fun _ => []) (fun i => y.pits.length - i) 0 (by simp) (by refine ⟨?_, ?_, rfl⟩<;>(repeat' (first|exact True.intro|exact rfl|(refine ⟨?_,?_⟩)|(intro h;cases h;done)|(intro h;exact h)|exact map_snoc|(refine own_congr ?_;simp;done)|(refine int_congr ?_;(first|omega|(simp;omega)))|(simp;done)|fail));done) ?_
 rintro i hi
 by_cases hil : i < y.pits.length
 ·obtain ⟨p, hp⟩ := some_of_lt hil
  have w3 := ev_Ints9 p.cls p.cls (hc p (List.mem_of_getElem? hp))
  rw [eqB_self9] at w3
  conv => whnf
  repeat' (first|((refine PickE.map i hp (by omega) ?_);conv=>whnf)|((with_reducible first|refine Split.of_true ?_|refine Split.of_false ?_);conv=>whnf)|(with_reducible refine Split.neg ?_)|((with_reducible refine Split.is_true ?_ ?_);decide;conv=>whnf)|((with_reducible refine Split.is_false ?_ ?_);decide;conv=>whnf)|((with_reducible refine Split.nez (fun _=>?_) (fun _=>?_))<;>conv=>whnf)|((with_reducible refine Split.eqz (fun _=>?_) (fun _=>?_))<;>conv=>whnf)|(with_reducible refine Split.and ?_)|(with_reducible refine Split.or ?_)|((with_reducible refine Split.streq (fun _=>?_) (fun _=>?_))<;>conv=>whnf)|((with_reducible refine Split.dec (fun _=>?_) (fun _=>?_))<;>conv=>whnf)|((with_reducible refine Split.mk (fun _=>?_) (fun _=>?_))<;>conv=>whnf)|((with_reducible refine NilK.mk (fun _=>?_) ?_)<;>conv=>whnf)|((with_reducible refine AltK.l ?_);(conv=>whnf);(with_reducible refine Need.mk ?_ ?_);(first|omega|(refine ⟨?_,?_⟩<;>simp<;>omega)|(simp;omega));conv=>whnf)|((with_reducible refine Need.mk ?_ ?_);(first|omega|rfl|decide|(refine ⟨?_,?_⟩<;>simp<;>omega)|(simp;omega));conv=>whnf)|((with_reducible refine Wr.quo ?_ ?_ ?_ ?_);omega;omega;omega;conv=>whnf)|((with_reducible refine Wr.inr ?_ ?_);(first|omega|(simp;omega));conv=>whnf)|((with_reducible refine Wr.inu ?_ ?_);omega;conv=>whnf)|((with_reducible refine AltK.l ?_);(conv=>whnf);(first|(refine CallK.mk _ (w3) ?_));conv=>whnf)|(exfalso;first|omega|contradiction)|fail)
  all_goals first
   | exact Again.au (i + 1) (by omega) (by omega) (by refine ⟨?_, ?_, rfl⟩<;>(repeat' (first|exact True.intro|exact rfl|(refine ⟨?_,?_⟩)|(intro h;cases h;done)|(intro h;exact h)|exact map_snoc|(refine own_congr ?_;simp;done)|(refine int_congr ?_;(first|omega|(simp;omega)))|(simp;done)|fail));done)
   |(exfalso; first | omega | contradiction)
 ·conv => whnf
  repeat' (first|((with_reducible first|refine Split.of_true ?_|refine Split.of_false ?_);conv=>whnf)|(with_reducible refine Split.neg ?_)|((with_reducible refine Split.is_true ?_ ?_);decide;conv=>whnf)|((with_reducible refine Split.is_false ?_ ?_);decide;conv=>whnf)|((with_reducible refine Split.nez (fun _=>?_) (fun _=>?_))<;>conv=>whnf)|((with_reducible refine Split.eqz (fun _=>?_) (fun _=>?_))<;>conv=>whnf)|(with_reducible refine Split.and ?_)|(with_reducible refine Split.or ?_)|((with_reducible refine Split.streq (fun _=>?_) (fun _=>?_))<;>conv=>whnf)|((with_reducible refine Split.dec (fun _=>?_) (fun _=>?_))<;>conv=>whnf)|((with_reducible refine Split.mk (fun _=>?_) (fun _=>?_))<;>conv=>whnf)|((with_reducible refine NilK.mk (fun _=>?_) ?_)<;>conv=>whnf)|((with_reducible refine AltK.l ?_);(conv=>whnf);(with_reducible refine Need.mk ?_ ?_);(first|omega|(refine ⟨?_,?_⟩<;>simp<;>omega)|(simp;omega));conv=>whnf)|((with_reducible refine Need.mk ?_ ?_);(first|omega|rfl|decide|(refine ⟨?_,?_⟩<;>simp<;>omega)|(simp;omega));conv=>whnf)|((with_reducible refine Wr.quo ?_ ?_ ?_ ?_);omega;omega;omega;conv=>whnf)|((with_reducible refine Wr.inr ?_ ?_);(first|omega|(simp;omega));conv=>whnf)|((with_reducible refine Wr.inu ?_ ?_);omega;conv=>whnf)|(exfalso;first|omega|contradiction)|fail)
  refine LoopK.o2 (fun i : Nat => i ≤ y.bulk.length) (fun i => [(8, .d (.int .i64 i))]) (fun _ => []) (fun i => y.bulk.length - i) 0 (by simp) (by refine ⟨?_, ?_, rfl⟩<;>(repeat' (first|exact True.intro|exact rfl|(refine ⟨?_,?_⟩)|(intro h;cases h;done)|(intro h;exact h)|exact map_snoc|(refine own_congr ?_;simp;done)|(refine int_congr ?_;(first|omega|(simp;omega)))|(simp;done)|fail));done) ?_
  rintro k hk
  by_cases hkl : k < y.bulk.length
  ·obtain ⟨b, hb⟩ := some_of_lt hkl
   conv => whnf
   repeat' (first|((refine PickE.map k hb (by omega) ?_);conv=>whnf)|((with_reducible first|refine Split.of_true ?_|refine Split.of_false ?_);conv=>whnf)|(with_reducible refine Split.neg ?_)|((with_reducible refine Split.is_true ?_ ?_);decide;conv=>whnf)|((with_reducible refine Split.is_false ?_ ?_);decide;conv=>whnf)|((with_reducible refine Split.nez (fun _=>?_) (fun _=>?_))<;>conv=>whnf)|((with_reducible refine Split.eqz (fun _=>?_) (fun _=>?_))<;>conv=>whnf)|(with_reducible refine Split.and ?_)|(with_reducible refine Split.or ?_)|((with_reducible refine Split.streq (fun _=>?_) (fun _=>?_))<;>conv=>whnf)|((with_reducible refine Split.dec (fun _=>?_) (fun _=>?_))<;>conv=>whnf)|((with_reducible refine Split.mk (fun _=>?_) (fun _=>?_))<;>conv=>whnf)|((with_reducible refine NilK.mk (fun _=>?_) ?_)<;>conv=>whnf)|((with_reducible refine AltK.l ?_);(conv=>whnf);(with_reducible refine Need.mk ?_ ?_);(first|omega|(refine ⟨?_,?_⟩<;>simp<;>omega)|(simp;omega));conv=>whnf)|((with_reducible refine Need.mk ?_ ?_);(first|omega|rfl|decide|(refine ⟨?_,?_⟩<;>simp<;>omega)|(simp;omega));conv=>whnf)|((with_reducible refine Wr.quo ?_ ?_ ?_ ?_);omega;omega;omega;conv=>whnf)|((with_reducible refine Wr.inr ?_ ?_);(first|omega|(simp;omega));conv=>whnf)|((with_reducible refine Wr.inu ?_ ?_);omega;conv=>whnf)|(exfalso;first|omega|contradiction)|fail)
   all_goals first
    | exact Again.au (k + 1) (by omega) (by omega) (by refine ⟨?_, ?_, rfl⟩<;>(repeat' (first|exact True.intro|exact rfl|(refine ⟨?_,?_⟩)|(intro h;cases h;done)|(intro h;exact h)|exact map_snoc|(refine own_congr ?_;simp;done)|(refine int_congr ?_;(first|omega|(simp;omega)))|(simp;done)|fail));done)
    |(exfalso; first | omega | contradiction)
  ·conv => whnf
   repeat' (first|((with_reducible first|refine Split.of_true ?_|refine Split.of_false ?_);conv=>whnf)|(with_reducible refine Split.neg ?_)|((with_reducible refine Split.is_true ?_ ?_);decide;conv=>whnf)|((with_reducible refine Split.is_false ?_ ?_);decide;conv=>whnf)|((with_reducible refine Split.nez (fun _=>?_) (fun _=>?_))<;>conv=>whnf)|((with_reducible refine Split.eqz (fun _=>?_) (fun _=>?_))<;>conv=>whnf)|(with_reducible refine Split.and ?_)|(with_reducible refine Split.or ?_)|((with_reducible refine Split.streq (fun _=>?_) (fun _=>?_))<;>conv=>whnf)|((with_reducible refine Split.dec (fun _=>?_) (fun _=>?_))<;>conv=>whnf)|((with_reducible refine Split.mk (fun _=>?_) (fun _=>?_))<;>conv=>whnf)|((with_reducible refine NilK.mk (fun _=>?_) ?_)<;>conv=>whnf)|((with_reducible refine AltK.l ?_);(conv=>whnf);(with_reducible refine Need.mk ?_ ?_);(first|omega|(refine ⟨?_,?_⟩<;>simp<;>omega)|(simp;omega));conv=>whnf)|((with_reducible refine Need.mk ?_ ?_);(first|omega|rfl|decide|(refine ⟨?_,?_⟩<;>simp<;>omega)|(simp;omega));conv=>whnf)|((with_reducible refine Wr.quo ?_ ?_ ?_ ?_);omega;omega;omega;conv=>whnf)|((with_reducible refine Wr.inr ?_ ?_);(first|omega|(simp;omega));conv=>whnf)|((with_reducible refine Wr.inu ?_ ?_);omega;conv=>whnf)|(exfalso;first|omega|contradiction)|fail)
   rfl
end Go.Proofs.Try
end

section
namespace Go.Proofs.Try
open Go Go.Vm
set_option maxRecDepth 40000
set_option maxHeartbeats 8000000
theorem ev_of_wp {P : Program} {S : Tys} (hS : TysOk P S) {f : FuncId} {fn : Func} {c : Code} {args : List D} {ret : D} (hf : P.funcs[f]? = some fn) (hb : fn.body = some c)
 (hn : (fn.name == "runtime.NumGoroutine") = false) (hlen : Nat.ble args.length fn.ntmps = true)
 (h : ∀ {e : Ent} {A0 : Sta} {a : Act} {w : World} {Q : Exit → Act → World → Prop}, Rel e A0 fn.ntmps ⟨numT 0 args, []⟩ a w → (∀ x σ a' w', Rel e A0 fn.ntmps σ a' w' → endP S fn ret x σ → Q x.to a' w') → c.wp P Q a w) : Ev P f args ret := by
 refine ⟨⟨fn, hf, hn, by rw [hb]; rfl⟩, fun w A vals hA hsz hreps => ?_⟩
 have hlen := Nat.le_of_ble_eq_true hlen
 refine calls_of_wp hf hb ?_
 refine h (start_rel (N := fn.ntmps) (Nat.le_refl w.heap.size) hlen hA hsz hreps) fun e σ' a' w' hr hk => ?_
 have fin : retP S fn ret σ' → a'.defers = [] ∧ ∃ v, (results fn a'.tmps).run P w' = .ok v w' ∧ ∃ v_1 A', Ending.returned v = .returned v_1 ∧ Rep w' A' ret v_1 ∧ BelowD w w' ∧
  (∀ g o, A g o → A' g o) ∧ (∀ g o, A' g o → g < w'.heap.size) ∧ (∀ g o, A' g o → A g o ∨ w.heap.size ≤ g) := by
  intro hret
  obtain ⟨h1, v, h2, A', h3, h4, h5, h6, h7⟩ := ret_sound hS hr hret
  refine ⟨h1, v, h2, v, A', rfl, h3, ⟨⟨h4.os, h4.tape.1, h4.output, h4.size, fun k hk => h4.block k hk id⟩, h4.tape.2⟩, h5, h6, fun g o hg => ?_⟩
  rcases h7 g o hg with h | h | h
  ·exact .inl h
  ·exact .inr h
  ·exact h.elim
 cases e with
 | normal => exact fin hk
 | ret => exact fin hk
 | exit i => cases hk
theorem rest_walk (y : Yd) (l : List Dp) (vx vy : Nat) (p q p' q' : RwM) (hs : Ev Try.prog 10 [ydD y, ydD y] (.bool true)) (hl : l.length ≤ 1000) :
 awp Try.prog Try.S 150 (dropC 10 lawC) (endP Try.S Try.f3 (.bool true)) (rndS y 2 p q p' q' vx vy l) := by
 have h1 : (l.map dpD).length = l.length := List.length_map _
 unfold lawC rndS rndT
 conv => whnf
 skip
 all_goals try (exfalso; omega)
 refine LoopK.o2 (fun r : Nat × List Dp => r.1 ≤ l.length ∧ r.2.length = l.length) (fun r => [(20, .d (.int .i64 r.1))]) (fun r => [(61, .row 47 3 (r.2.map dpD) false)]) (fun r => l.length - r.1) (0, l) ⟨Nat.zero_le _, rfl⟩ (by refine ⟨?_, ?_, rfl⟩<;>(repeat' (first|exact True.intro|exact rfl|(refine ⟨?_,?_⟩)|(intro h;cases h;done)|fail));done) ?_
 rintro ⟨j, ds⟩ ⟨hj, hds⟩
 have hj : j ≤ l.length := hj
 have hds : ds.length = l.length := hds
 have h3' : (ds.map dpD).length = ds.length := List.length_map _
 by_cases hjl : j < l.length
 ·obtain ⟨d, hd0⟩ := some_of_lt (l := ds) (i := j) (by omega)
  have hmp1 : (ds.map dpD).set j (.agg [iD d.batch, .str d.pit, .int .i64 77]) = (ds.set j ⟨d.batch, d.pit, 77⟩).map dpD := by rw [List.map_set]; rfl
  conv => whnf
  repeat' (first|((refine PickE.map j hd0 (by omega) ?_);conv=>whnf)|((with_reducible refine Split.dec (fun _=>?_) (fun _=>?_))<;>conv=>whnf)|((with_reducible refine Need.mk ?_ ?_);(first|omega|rfl|decide|(refine ⟨?_,?_⟩<;>simp<;>omega)|(simp;omega));conv=>whnf)|((with_reducible refine Wr.inr ?_ ?_);(first|omega|(simp;omega));conv=>whnf)|fail)
  all_goals first
   |(exfalso; dsimp only at *; omega)
   | exact Again.au (j + 1, ds.set j ⟨d.batch, d.pit, 77⟩) ⟨by show j + 1 ≤ _;omega, by show (ds.set _ _).length = _;rw [List.length_set];exact hds⟩ (by show l.length - (j + 1) < l.length - j;omega) (by refine ⟨?_, ?_, rfl⟩<;>(repeat' (first|exact True.intro|exact rfl|(refine ⟨?_,?_⟩)|(intro h;cases h;done)|exact hmp1|fail));done)
 ·conv => whnf
  repeat' (first|((with_reducible refine Split.dec (fun _=>?_) (fun _=>?_))<;>conv=>whnf)|((with_reducible refine Need.mk ?_ ?_);(first|omega|rfl|decide|(refine ⟨?_,?_⟩<;>simp<;>omega)|(simp;omega));conv=>whnf)|((with_reducible refine AltK.l ?_);(conv=>whnf);(first|(refine CallK.mk _ (hs) ?_));conv=>whnf)|fail)
  all_goals first
   |(exfalso; dsimp only at *; omega)
   | rfl
theorem law_mem (hA : Ev Try.prog 4 [] (.bool true)) (y : Yd) (b : Bt) (hs : smallB y = true) (hb : b.soil.size ≤ 40) (hSame : Ev Try.prog 10 [ydD y, ydD y] (.bool true))
 (hP : ∀ s, ∃ lens Y e, YdM lens Y ∧ YdX 7 [ydD y, btD b, .str s] lens Y e) (hN : ∃ lens Y e, YdM lens Y ∧ YdX 8 [.sl 6 (y.pits.map ptD), .sl 3 (y.bulk.map bkD)] lens Y e)
 (hL : ∀ s, ∃ (l : List Dp) (e : Int), l.length ≤ 1000 ∧ EvX Try.prog 9 [.d (ydD y), .d (.str s)] [] (.tup [.own 9 3 (l.map dpD).length, .d (iD e)]) [(9, .row 47 3 (l.map dpD) false)]) :
 Ev Try.prog 3 [ydD y, btD b] (.bool true) := by
 refine ev_of_wp tysOk (fn := Try.f3) Try.func3 rfl rfl rfl ?_
 intro e A0 a w Q hr hQ
 show lawC.wp Try.prog Q a w
 refine wp_pre tysOk mixed 9 (law_pre hA y b hs hb hP hN hL) hr ?_
 rintro σ a w hr ⟨l1, l2, y1, y2, l, o1, o2, o3, hle⟩
 have hr := le_sound hle hr
 have hp : RwM.le ⟨l1, y1.bulk, y1.deps, y1.carry⟩ := ⟨o1.1.1, o1.1.2, Nat.le_trans o1.2.1 (by decide), Nat.le_trans o1.2.2.1 (by decide), Nat.le_trans o1.2.2.2 (by decide)⟩
 have hq : RwM.le ⟨l2, y2.bulk, y2.deps, y2.carry⟩ := ⟨o2.1.1, o2.1.2, Nat.le_trans o2.2.1 (by decide), Nat.le_trans o2.2.2.1 (by decide), Nat.le_trans o2.2.2.2 (by decide)⟩
 generalize hpe : RwM.mk l1 y1.bulk y1.deps y1.carry = p at hp
 generalize hqe : RwM.mk l2 y2.bulk y2.deps y2.carry = q at hq
 refine wp_seq (wp_piece tysOk mixed (K := fun σ => Le σ (rndS y 0 p q p q 0 0 l) []) (σ := lawSt y l1 l2 y1 y2 l) ?_ hr ?_)
 ·subst hpe; subst hqe
  unfold lawSt rndS rndT
  conv => whnf
  skip
  exact (by refine ⟨?_, ?_, rfl⟩<;>(repeat' (first|exact True.intro|exact rfl|(refine ⟨?_,?_⟩)|(intro h;cases h;done)|(refine own_congr ?_;simp;done)|fail));done)
 intro σ a w hr hle
 have hr := le_sound hle hr
 refine wp_block (wp_loop_rounds 3 ?_)
 refine round1 y l 0 0 p q p q ⟨rfl, rfl, rfl, rfl⟩ hp hr fun z a w hz hr => ?_
 refine round2 y l 0 0 p q z q ⟨rfl, rfl, rfl, rfl⟩ hq hr fun z2 a w hz2 hr => ?_
 refine round3 y l 0 0 p q z z2 hr fun a w hr => ?_
 exact awp_sound tysOk mixed (dropC 10 lawC) (rest_walk y l 0 0 p q z z2 hSame o3) hr hQ
end Go.Proofs.Try
end

section
namespace Go.Proofs.Try
open Go Go.Vm
theorem int_of {k : IntKind} {d : D} (h : Ty (.int k) d) : ∃ n, d = .int k n ∧ (Lit.int k n).wf = true := by cases h; exact ⟨_, rfl, by assumption⟩
theorem str_of {d : D} (h : Ty .str d) : ∃ s, d = .str s ∧ s.size ≤ 9223372036854775807 := by
 cases h with
 | str s h => exact ⟨_, rfl, h⟩
theorem sl_of {agg : Bool} {cs : List Cs} {d : D} (h : Ty (.sl agg cs) d) : ∃ es, d = .sl cs.length es ∧ (∀ e ∈ es, TyV (agg, cs) e) ∧ es.length ≤ 9223372036854775807 := by
 cases h with
 | sl hk hl h hn => exact ⟨_, rfl, fun e he => ⟨hk e he, hl e he, h e he⟩, hn⟩
theorem agg_of {cs : List Cs} {d : D} (h : TyV (true, cs) d) : ∃ ds, d = .agg ds ∧ ds.length = cs.length ∧ ∀ (j : Nat) c e, cs[j]? = some c → ds[j]? = some e → Ty c e := by
 obtain ⟨ds, rfl⟩ := h.1.1 rfl
 exact ⟨ds, rfl, h.2.1, h.2.2⟩
theorem one_of {c : Cs} {d : D} (h : TyV (false, [c]) d) : Ty c d := by
 have h1 := h.1.2 rfl
 have := h.2.2 0 c d rfl
 rw [(one_cells h1).1] at this
 exact this rfl
theorem map_of {α : Type} {f : α → D} {Q : D → Prop} (hf : ∀ d, Q d → ∃ a, d = f a) : ∀ {es : List D}, (∀ e ∈ es, Q e) → ∃ l : List α, es = l.map f
 | [], _ => ⟨[], rfl⟩
 | e :: es, h => by
  obtain ⟨a, rfl⟩ := hf e (h e (List.mem_cons_self ..))
  obtain ⟨l, rfl⟩ := map_of hf (fun e he => h e (List.mem_cons_of_mem _ he))
  exact ⟨a :: l, rfl⟩
end Go.Proofs.Try
end

section
namespace Go.Proofs.Try
open Go Go.Vm
def cPit : List Cs := [.str, .int .i64, .int .i64, .int .i64, .sl false [.int .i64], .int .i64]
def cBulk : List Cs := [.str, .int .i64, .int .i64]
def cDep : List Cs := [.int .i64, .str, .int .i64]
def cYard : List Cs := [.sl true cPit, .sl true cBulk, .sl true cDep, .sl false [.int .i64]]
def cBat : List Cs := [.int .i64, .int .i64, .int .i64, .str, .int .i64]
theorem ints_of9 {d : D} (h : Ty (.sl false [.int .i64]) d) : ∃ l : List Int, d = .sl 1 (l.map iD) := by
 obtain ⟨es, rfl, he, -⟩ := sl_of h
 obtain ⟨l, rfl⟩ := map_of (f := iD) (fun d hd => by
  obtain ⟨n, rfl, -⟩ := int_of (one_of hd)
  exact ⟨n, rfl⟩) he
 exact ⟨l, rfl⟩
theorem pit_of {d : D} (h : TyV (true, cPit) d) : ∃ p, d = ptD p := by
 obtain ⟨ds, rfl, hl, hc⟩ := agg_of h
 match ds, hl with
 | [a, b, c, e, f, g], _ =>
  obtain ⟨s, rfl, -⟩ := str_of (hc 0 _ a rfl rfl)
  obtain ⟨x1, rfl, -⟩ := int_of (hc 1 _ b rfl rfl)
  obtain ⟨x2, rfl, -⟩ := int_of (hc 2 _ c rfl rfl)
  obtain ⟨x3, rfl, -⟩ := int_of (hc 3 _ e rfl rfl)
  obtain ⟨l, rfl⟩ := ints_of9 (hc 4 _ f rfl rfl)
  obtain ⟨x5, rfl, -⟩ := int_of (hc 5 _ g rfl rfl)
  exact ⟨⟨s, x1, x2, x3, l, x5⟩, rfl⟩
theorem bulk_of {d : D} (h : TyV (true, cBulk) d) : ∃ p, d = bkD p := by
 obtain ⟨ds, rfl, hl, hc⟩ := agg_of h
 match ds, hl with
 | [a, b, c], _ =>
  obtain ⟨s, rfl, -⟩ := str_of (hc 0 _ a rfl rfl)
  obtain ⟨x1, rfl, -⟩ := int_of (hc 1 _ b rfl rfl)
  obtain ⟨x2, rfl, -⟩ := int_of (hc 2 _ c rfl rfl)
  exact ⟨⟨s, x1, x2⟩, rfl⟩
theorem dep_of {d : D} (h : TyV (true, cDep) d) : ∃ p, d = dpD p := by
 obtain ⟨ds, rfl, hl, hc⟩ := agg_of h
 match ds, hl with
 | [a, b, c], _ =>
  obtain ⟨x1, rfl, -⟩ := int_of (hc 0 _ a rfl rfl)
  obtain ⟨s, rfl, -⟩ := str_of (hc 1 _ b rfl rfl)
  obtain ⟨x2, rfl, -⟩ := int_of (hc 2 _ c rfl rfl)
  exact ⟨⟨x1, s, x2⟩, rfl⟩
theorem bat_of {d : D} (h : TyV (true, cBat) d) : ∃ p, d = btD p := by
 obtain ⟨ds, rfl, hl, hc⟩ := agg_of h
 match ds, hl with
 | [a, b, c, e, f], _ =>
  obtain ⟨x0, rfl, -⟩ := int_of (hc 0 _ a rfl rfl)
  obtain ⟨x1, rfl, -⟩ := int_of (hc 1 _ b rfl rfl)
  obtain ⟨x2, rfl, -⟩ := int_of (hc 2 _ c rfl rfl)
  obtain ⟨s, rfl, -⟩ := str_of (hc 3 _ e rfl rfl)
  obtain ⟨x4, rfl, -⟩ := int_of (hc 4 _ f rfl rfl)
  exact ⟨⟨x0, x1, x2, s, x4⟩, rfl⟩
theorem yard_of {d : D} (h : TyV (true, cYard) d) : ∃ y, d = ydD y := by
 obtain ⟨ds, rfl, hl, hc⟩ := agg_of h
 match ds, hl with
 | [a, b, c, e], _ =>
  obtain ⟨es, rfl, he, -⟩ := sl_of (hc 0 _ a rfl rfl)
  obtain ⟨l0, rfl⟩ := map_of (fun d hd => pit_of hd) he
  obtain ⟨es, rfl, he, -⟩ := sl_of (hc 1 _ b rfl rfl)
  obtain ⟨l1, rfl⟩ := map_of (fun d hd => bulk_of hd) he
  obtain ⟨es, rfl, he, -⟩ := sl_of (hc 2 _ c rfl rfl)
  obtain ⟨l2, rfl⟩ := map_of (fun d hd => dep_of hd) he
  obtain ⟨l3, rfl⟩ := ints_of9 (hc 3 _ e rfl rfl)
  exact ⟨⟨l0, l1, l2, l3⟩, rfl⟩
end Go.Proofs.Try
end

section
namespace Go.Proofs.Try
open Go Go.Vm
theorem ev_DisposalMemory' (y : Yd) (b : Bt) : Ev Try.prog 3 [ydD y, btD b] (.bool true) := by
 by_cases h : smallB y = false ∨ 40 < b.soil.size
 ·exact law_small ev_awake9 y b h
 ·have hs : smallB y = true := by
   cases h1 : smallB y with
   | true => rfl
   | false => exact absurd (.inl h1) h
  have hb : b.soil.size ≤ 40 := by
   have : ¬ 40 < b.soil.size := fun h1 => h (.inr h1)
   omega
  have hB := smB hs
  have hcl : ∀ x ∈ y.pits, x.cls.length ≤ 100000 := fun p hp => Nat.le_trans (hB.cl p hp) (by decide)
  have hsm : smallP y := fun p hp => Nat.le_trans (hB.cl p hp) (by decide)
  refine law_mem ev_awake9 y b hs hb (ev_SameSelf y (by have := hB.p; omega) (by have := hB.b; omega) (by have := hB.d; omega) (by have := hB.c; omega) fun p hp => Nat.le_trans (hB.cl p hp) (by decide)) (fun s => ?_) (xv_NewM y.pits y.bulk hcl (by have := hB.b; omega)) (fun s => xv_LayersM y s hsm)
  by_cases h0 : withErr y b = 0
  ·obtain ⟨k, f, c, hw⟩ := with_ok h0
   exact xv_PlaceM hcl h0 hw
  ·exact xv_PlaceNoM hsm h0
end Go.Proofs.Try
end
