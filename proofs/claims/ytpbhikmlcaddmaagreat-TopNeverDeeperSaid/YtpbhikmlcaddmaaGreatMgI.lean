/- Texts VmRn VmNm VmCp VmMu VmZ VmZi, joined. -/
import Derived.Test.YtpbhikmlcaddmaaGreatMgH
import Derived.Shelf.Bits.Mul64
import Derived.Shelf.SlSortCmp.NoneTotal
import Derived.Shelf.SlGeneric
import Derived.Shelf.Sort.Plain
import Derived.Shelf.Slices.In.SortNone
section
/- Contracts of calls that are handed boxes, under other names of the boxes. -/
namespace Go.Vm
open Go.RowKit (Below)
def rnm (m : List (Nat × Nat)) (b : Nat) : Nat := match lk m b with
  | some c => c
  | none => b
def Cap.rn (m : List (Nat × Nat)) : Cap → Cap
  | .box b => .box (rnm m b)
  | .dat x => .dat x
def rnCs (m : List (Nat × Nat)) : List Cap → List Cap
  | [] => []
  | c :: r => c.rn m :: rnCs m r
def AV.rn1 (m : List (Nat × Nat)) : AV → AV
  | .ptr b o => .ptr (rnm m b) o
  | .eptr b s i o => .eptr (rnm m b) s i o
  | .own b s n => .own (rnm m b) s n
  | .fnv f cs => .fnv f (rnCs m cs)
  | .sptr b s i j => .sptr (rnm m b) s i j
  | .sub b v i => .sub (rnm m b) v i
  | .mptr b v i j => .mptr (rnm m b) v i j
  | .mp b => .mp (rnm m b)
  | .view b s i j => .view (rnm m b) s i j
  | v => v
def rnL (m : List (Nat × Nat)) : List AV → List AV
  | [] => []
  | c :: r => c.rn1 m :: rnL m r
def AV.rn2 (m : List (Nat × Nat)) : AV → AV
  | .agg cs => .agg (rnL m cs)
  | v => v.rn1 m
def rnT (m : List (Nat × Nat)) : List AV → List AV
  | [] => []
  | c :: r => c.rn2 m :: rnT m r
def AV.rn (m : List (Nat × Nat)) : AV → AV
  | .tup cs => .tup (rnT m cs)
  | v => v.rn2 m
def rnA (m : List (Nat × Nat)) : List AV → List AV
  | [] => []
  | c :: r => c.rn m :: rnA m r
def Bx.rn (m : List (Nat × Nat)) : Bx → Bx
  | .var cs fz => .var (rnL m cs) fz
  | .iter k n seen => .iter (k.map (rnm m)) n seen
  | x => x
def rnB (m : List (Nat × Nat)) : List (Nat × Bx) → List (Nat × Bx)
  | [] => []
  | (b, x) :: r => (rnm m b, x.rn m) :: rnB m r
/-- The names of two lists of boxes: each once in each; no two get one name. -/
def injN (m : List (Nat × Nat)) : List Nat → List (Nat × Nat) → Bool
  | [], _ => true
  | b :: r, seen => match chk b (rnm m b) seen with
    | true => injN m r ((b, rnm m b) :: seen)
    | false => false
where
  chk (b c : Nat) : List (Nat × Nat) → Bool
    | [] => true
    | (b', c') :: r => match Nat.beq c c', Nat.beq b b' with
      | true, false => false
      | _, _ => chk b c r
def namesB : List (Nat × Bx) → List Nat
  | [] => []
  | (b, _) :: r => b :: namesB r
/-- Values are shaped as values are: structs hold no structs, tuples no tuples. -/
def wfA : List AV → Bool
  | [] => true
  | c :: r => match c.wf with
    | true => wfA r
    | false => false
def wfB : List (Nat × Bx) → Bool
  | [] => true
  | (_, x) :: r => match x with
    | .var cs _ => match leafL cs with
      | true => wfB r
      | false => false
    | _ => wfB r

theorem rnL_map (m : List (Nat × Nat)) : ∀ l, rnL m l = l.map (AV.rn1 m)
  | [] => rfl
  | c :: r => by simp [rnL, rnL_map m r]
theorem rnT_map (m : List (Nat × Nat)) : ∀ l, rnT m l = l.map (AV.rn2 m)
  | [] => rfl
  | c :: r => by simp [rnT, rnT_map m r]
theorem rnA_map (m : List (Nat × Nat)) : ∀ l, rnA m l = l.map (AV.rn m)
  | [] => rfl
  | c :: r => by simp [rnA, rnA_map m r]
theorem rnCs_map (m : List (Nat × Nat)) : ∀ l, rnCs m l = l.map (Cap.rn m)
  | [] => rfl
  | c :: r => by simp [rnCs, rnCs_map m r]
theorem injN_spec {m : List (Nat × Nat)} : ∀ {l : List Nat} {seen : List (Nat × Nat)}, injN m l seen = true →
    (∀ b ∈ l, ∀ q ∈ seen, rnm m b = q.2 → b = q.1) ∧ (∀ b ∈ l, ∀ b' ∈ l, rnm m b = rnm m b' → b = b')
  | [], seen, _ => ⟨fun b h => (by cases h), fun b h => (by cases h)⟩
  | b :: r, seen, h => by
    simp only [injN] at h
    split at h
    · rename_i hc
      obtain ⟨h1, h2⟩ := injN_spec h
      have key : ∀ {s : List (Nat × Nat)}, injN.chk b (rnm m b) s = true → ∀ q ∈ s, rnm m b = q.2 → b = q.1 := by
        intro s
        induction s with
        | nil => intro _ q hq; cases hq
        | cons q s ih =>
          obtain ⟨b', c'⟩ := q
          intro hs q hq he
          simp only [injN.chk] at hs
          split at hs
          · cases hs
          · rename_i hn
            cases hq with
            | head =>
              by_cases e : b = b'
              · exact e
              · exact absurd (beq_ne_false e) (fun h' => hn (by rw [he]; exact Nat.beq_refl _) h')
            | tail _ hq => exact ih hs q hq he
      refine ⟨fun c hc' q hq he => ?_, fun c hc1 c' hc2 he => ?_⟩
      · cases hc' with
        | head => exact key hc q hq he
        | tail _ hc' => exact h1 c hc' q (List.mem_cons_of_mem _ hq) he
      · cases hc1 with
        | head =>
          cases hc2 with
          | head => rfl
          | tail _ hc2 => exact (h1 c' hc2 (b, rnm m b) List.mem_cons_self he.symm).symm
        | tail _ hc1 =>
          cases hc2 with
          | head => exact h1 c hc1 (b, rnm m b) List.mem_cons_self he
          | tail _ hc2 => exact h2 c hc1 c' hc2 he
    · cases h
theorem mem_names {b : Nat} : ∀ {l : List (Nat × Bx)}, b ∈ namesB l ↔ lk l b ≠ none
  | [] => by simp [namesB, lk]
  | (k, x) :: r => by
    simp only [namesB, List.mem_cons, lk_cons, mem_names (l := r)]
    by_cases e : b = k
    · simp [e]
    · simp [e]

section
variable {m : List (Nat × Nat)}
theorem lk_rnB : ∀ {hs : List (Nat × Bx)} {b : Nat}, (∀ c ∈ namesB hs, rnm m b = rnm m c → b = c) → lk (rnB m hs) (rnm m b) = (lk hs b).map (Bx.rn m)
  | [], b, _ => rfl
  | (k, x) :: r, b, h => by
    simp only [rnB, lk_cons]
    by_cases e : b = k
    · subst e; simp
    · have : rnm m b ≠ rnm m k := fun h' => e (h k (by simp [namesB]) h')
      rw [if_neg this, if_neg e]
      exact lk_rnB fun c hc => h c (by simp [namesB, hc])
theorem lk_rnB_some : ∀ {hs : List (Nat × Bx)} {c : Nat} {y : Bx}, lk (rnB m hs) c = some y → ∃ b, b ∈ namesB hs ∧ c = rnm m b
  | [], c, y, h => by cases h
  | (k, x) :: r, c, y, h => by
    simp only [rnB, lk_cons] at h
    by_cases e : c = rnm m k
    · exact ⟨k, by simp [namesB], e⟩
    · rw [if_neg e] at h
      obtain ⟨b, h1, h2⟩ := lk_rnB_some h
      exact ⟨b, by simp [namesB, h1], h2⟩

/-- The layout seen through the names. -/
def Lay.thru (L : Lay) (m : List (Nat × Nat)) : Lay := ⟨fun b => L.ι (rnm m b), fun b => L.hd (rnm m b), fun b => L.sub (rnm m b), fun b => L.top (rnm m b)⟩
variable {L L' : Lay} {w : World} {A : Sta}
theorem rn1_rv {x : AV} {v : Value} (hl : x.leaf = true) : RV L w A (x.rn1 m) v ↔ RV (L.thru m) w A x v := by
  constructor
  · intro h
    cases x with
    | d x => cases h with | d h => exact .d h
    | agg => cases hl
    | tup => cases hl
    | ptr b o => cases h; exact RV.ptr (L := L.thru m) b o
    | eptr b s i o => cases h; exact RV.eptr (L := L.thru m) b s i o
    | own b s n => cases h with | own _ _ _ h1 => exact RV.own (L := L.thru m) b s n h1
    | fnv f cs =>
      cases h with
      | @fnv _ _ vs h1 h2 =>
        refine .fnv (by rw [← h1, rnCs_map]; simp) fun j c v hc hv => ?_
        have := h2 j (c.rn m) v (by rw [rnCs_map]; simp [hc]) hv
        cases c with
        | box b => exact this
        | dat x => exact this
    | sptr b s i j => cases h; exact RV.sptr (L := L.thru m) b s i j
    | sub b v i => cases h with | sub _ _ _ h1 h2 => exact RV.sub (L := L.thru m) b v i h1 h2
    | mptr b v i j => cases h with | mptr _ _ _ _ g h1 h2 => exact RV.mptr (L := L.thru m) b v i j g h1 h2
    | mp b => cases h; exact RV.mp (L := L.thru m) b
    | view b s i j => cases h with | view _ _ _ _ c g h1 => exact RV.view (L := L.thru m) b s i j c g h1
    | nil => cases h; exact .nil _
    | undef => cases h; exact .undef
    | junk => exact .junk _
  · intro h
    cases x with
    | d x => cases h with | d h => exact .d h
    | agg => cases hl
    | tup => cases hl
    | ptr b o => cases h; exact RV.ptr (L := L) (rnm m b) o
    | eptr b s i o => cases h; exact RV.eptr (L := L) (rnm m b) s i o
    | own b s n => cases h with | own _ _ _ h1 => exact RV.own (L := L) (rnm m b) s n h1
    | fnv f cs =>
      cases h with
      | @fnv _ _ vs h1 h2 =>
        refine .fnv (by rw [← h1, rnCs_map]; simp) fun j c v hc hv => ?_
        rw [rnCs_map] at hc
        simp only [List.getElem?_map, Option.map_eq_some_iff] at hc
        obtain ⟨c, hc, rfl⟩ := hc
        have := h2 j c v hc hv
        cases c with
        | box b => exact this
        | dat x => exact this
    | sptr b s i j => cases h; exact RV.sptr (L := L) (rnm m b) s i j
    | sub b v i => cases h with | sub _ _ _ h1 h2 => exact RV.sub (L := L) (rnm m b) v i h1 h2
    | mptr b v i j => cases h with | mptr _ _ _ _ g h1 h2 => exact RV.mptr (L := L) (rnm m b) v i j g h1 h2
    | mp b => cases h; exact RV.mp (L := L) (rnm m b)
    | view b s i j => cases h with | view _ _ _ _ c g h1 => exact RV.view (L := L) (rnm m b) s i j c g h1
    | nil => cases h; exact .nil _
    | undef => cases h; exact .undef
    | junk => exact .junk _
theorem leafL_get : ∀ {l : List AV}, leafL l = true → ∀ c ∈ l, c.leaf = true
  | [], _, c, h => by cases h
  | d :: l, h, c, hc => by
    simp only [leafL] at h
    split at h
    · rename_i h1
      cases hc with
      | head => exact h1
      | tail _ hc => exact leafL_get h c hc
    · cases h
theorem wfT_get : ∀ {l : List AV}, wfT l = true → ∀ c ∈ l, c.wf2 = true
  | [], _, c, h => by cases h
  | d :: l, h, c, hc => by
    simp only [wfT] at h
    split at h
    · rename_i h1
      cases hc with
      | head => exact h1
      | tail _ hc => exact wfT_get h c hc
    · cases h
theorem rn1_one {c : AV} : (c.rn1 m).one = c.one := by cases c <;> rfl
theorem rn2_rv {x : AV} {v : Value} (hw : x.wf2 = true) : RV L w A (x.rn2 m) v ↔ RV (L.thru m) w A x v := by
  cases x with
  | agg cs =>
    have hl := leafL_get hw
    constructor
    · intro h
      simp only [AV.rn2] at h
      cases h with
      | @agg _ vs h1 h2 h3 =>
        rw [rnL_map] at h1 h2 h3
        refine .agg (by simpa using h1) (fun c hc => ?_) fun j c v hc hv => ?_
        · rw [← rn1_one (m := m)]; exact h2 _ (List.mem_map_of_mem hc)
        · exact (rn1_rv (hl c (List.mem_of_getElem? hc))).1 (h3 j (c.rn1 m) v (by simp [hc]) hv)
    · intro h
      simp only [AV.rn2]
      cases h with
      | @agg _ vs h1 h2 h3 =>
        rw [rnL_map]
        refine .agg (by simpa using h1) (fun c hc => ?_) fun j c v hc hv => ?_
        · obtain ⟨c', hc', rfl⟩ := List.mem_map.1 hc
          rw [rn1_one]; exact h2 c' hc'
        · simp only [List.getElem?_map, Option.map_eq_some_iff] at hc
          obtain ⟨c, hc, rfl⟩ := hc
          exact (rn1_rv (hl c (List.mem_of_getElem? hc))).2 (h3 j c v hc hv)
  | tup => cases hw
  | d x => exact rn1_rv (x := .d x) rfl
  | ptr b o => exact rn1_rv (x := .ptr b o) rfl
  | eptr b s i o => exact rn1_rv (x := .eptr b s i o) rfl
  | own b s n => exact rn1_rv (x := .own b s n) rfl
  | fnv f cs => exact rn1_rv (x := .fnv f cs) rfl
  | sptr b s i j => exact rn1_rv (x := .sptr b s i j) rfl
  | sub b v i => exact rn1_rv (x := .sub b v i) rfl
  | mptr b v i j => exact rn1_rv (x := .mptr b v i j) rfl
  | mp b => exact rn1_rv (x := .mp b) rfl
  | view b s i j => exact rn1_rv (x := .view b s i j) rfl
  | nil s => exact rn1_rv (x := .nil s) rfl
  | undef => exact rn1_rv (x := .undef) rfl
  | junk => exact rn1_rv (x := .junk) rfl
theorem rn_rv {x : AV} {v : Value} (hw : x.wf = true) : RV L w A (x.rn m) v ↔ RV (L.thru m) w A x v := by
  cases x with
  | tup cs =>
    have hl := wfT_get hw
    constructor
    · intro h
      simp only [AV.rn] at h
      cases h with
      | @tup _ vs h1 h3 =>
        rw [rnT_map] at h1 h3
        exact .tup (by simpa using h1) fun j c v hc hv => (rn2_rv (hl c (List.mem_of_getElem? hc))).1 (h3 j (c.rn2 m) v (by simp [hc]) hv)
    · intro h
      simp only [AV.rn]
      cases h with
      | @tup _ vs h1 h3 =>
        rw [rnT_map]
        refine .tup (by simpa using h1) fun j c v hc hv => ?_
        simp only [List.getElem?_map, Option.map_eq_some_iff] at hc
        obtain ⟨c, hc, rfl⟩ := hc
        exact (rn2_rv (hl c (List.mem_of_getElem? hc))).2 (h3 j c v hc hv)
  | agg cs => exact rn2_rv (x := .agg cs) hw
  | d x => exact rn2_rv (x := .d x) rfl
  | ptr b o => exact rn2_rv (x := .ptr b o) rfl
  | eptr b s i o => exact rn2_rv (x := .eptr b s i o) rfl
  | own b s n => exact rn2_rv (x := .own b s n) rfl
  | fnv f cs => exact rn2_rv (x := .fnv f cs) rfl
  | sptr b s i j => exact rn2_rv (x := .sptr b s i j) rfl
  | sub b v i => exact rn2_rv (x := .sub b v i) rfl
  | mptr b v i j => exact rn2_rv (x := .mptr b v i j) rfl
  | mp b => exact rn2_rv (x := .mp b) rfl
  | view b s i j => exact rn2_rv (x := .view b s i j) rfl
  | nil s => exact rn2_rv (x := .nil s) rfl
  | undef => exact rn2_rv (x := .undef) rfl
  | junk => exact rn2_rv (x := .junk) rfl

theorem own_rn {b : Nat} {x : Bx} {g : Nat} : own L (rnm m b) (x.rn m) g ↔ own (L.thru m) b x g := by cases x <;> exact Iff.rfl
theorem br_rn {B0 b : Nat} {x : Bx} (hw : ∀ cs fz, x = .var cs fz → leafL cs = true) : BR B0 L w A (rnm m b) (x.rn m) ↔ BR B0 (L.thru m) w A b x := by
  cases x with
  | row => exact Iff.rfl
  | arr => exact Iff.rfl
  | mat => exact Iff.rfl
  | map => exact Iff.rfl
  | gone => exact Iff.rfl
  | iter k n seen =>
    constructor
    · rintro ⟨⟨g, h1, h2⟩, h3⟩
      exact ⟨⟨g, h1, fun b' hb' => by subst hb'; exact h2 _ rfl⟩, h3⟩
    · rintro ⟨⟨g, h1, h2⟩, h3⟩
      refine ⟨⟨g, h1, fun b' hb' => ?_⟩, h3⟩
      cases k with
      | none => cases hb'
      | some c => cases hb'; exact h2 c rfl
  | var cs fz =>
    have hl := leafL_get (hw cs fz rfl)
    constructor
    · rintro ⟨C, t, h1, h2, h3, h4⟩
      rw [rnL_map] at h2 h3
      exact ⟨C, t, h1, by simpa using h2, fun j c v hc hv => (rn1_rv (hl c (List.mem_of_getElem? hc))).1 (h3 j (c.rn1 m) v (by simp [hc]) hv), h4⟩
    · rintro ⟨C, t, h1, h2, h3, h4⟩
      refine ⟨C, t, h1, by rw [rnL_map]; simpa using h2, fun j c v hc hv => ?_, h4⟩
      rw [rnL_map] at hc
      simp only [List.getElem?_map, Option.map_eq_some_iff] at hc
      obtain ⟨c, hc, rfl⟩ := hc
      exact (rn1_rv (hl c (List.mem_of_getElem? hc))).2 (h3 j c v hc hv)
theorem wfB_get : ∀ {l : List (Nat × Bx)}, wfB l = true → ∀ b x, lk l b = some x → ∀ cs fz, x = .var cs fz → leafL cs = true
  | [], _, b, x, h => by cases h
  | (k, y) :: r, hl, b, x, h => by
    simp only [wfB] at hl
    rw [lk_cons] at h
    by_cases e : b = k
    · rw [if_pos e] at h
      cases h
      rintro cs fz rfl
      simp only at hl
      split at hl
      · assumption
      · cases hl
    · rw [if_neg e] at h
      refine wfB_get ?_ b x h
      split at hl
      · split at hl
        · exact hl
        · cases hl
      · exact hl
theorem wfA_get : ∀ {l : List AV}, wfA l = true → ∀ (j : Nat) c, l[j]? = some c → c.wf = true
  | [], _, j, c, h => by simp at h
  | d :: l, h, j, c, hc => by
    simp only [wfA] at h
    split at h
    · rename_i h1
      cases j with
      | zero => simp only [List.getElem?_cons_zero, Option.some.injEq] at hc; subst hc; exact h1
      | succ j => exact wfA_get h j c (by simpa using hc)
    · cases h

theorem menT_iff {b : Nat} : ∀ {cs : List AV}, AV.menT b cs = true ↔ ∃ c ∈ cs, c.men2 b = true
  | [] => by simp [AV.menT]
  | c :: cs => by
    simp only [AV.menT]
    cases hc : c.men2 b with
    | true => simp [hc]
    | false => simp [hc, menT_iff (cs := cs)]
theorem capMen_rn' {d : Nat} : ∀ {cs : List Cap}, capMen d (rnCs m cs) = true → ∃ b, capMen b cs = true ∧ d = rnm m b
  | [], h => by cases h
  | c :: r, h => by
    cases c with
    | box b' =>
      simp only [capMen, rnCs, Cap.rn] at h
      cases e : Nat.beq d (rnm m b') with
      | true => exact ⟨b', by simp [capMen, Nat.beq_refl], Nat.eq_of_beq_eq_true e⟩
      | false =>
        rw [e] at h
        obtain ⟨b, h1, h2⟩ := capMen_rn' h
        refine ⟨b, ?_, h2⟩
        simp only [capMen]
        split
        · rfl
        · exact h1
    | dat x =>
      simp only [capMen, rnCs, Cap.rn] at h
      obtain ⟨b, h1, h2⟩ := capMen_rn' h
      exact ⟨b, by simp only [capMen]; exact h1, h2⟩
theorem men1_rn' {d : Nat} {c : AV} (hl : c.leaf = true) (h : (c.rn1 m).men1 d = true) : ∃ b, c.men1 b = true ∧ d = rnm m b := by
  cases c <;> simp only [AV.rn1, AV.men1] at h <;> first
    | (cases h; done)
    | (cases hl; done)
    | exact ⟨_, Nat.beq_refl _, Nat.eq_of_beq_eq_true h⟩
    | exact capMen_rn' h
theorem menL_rn' {d : Nat} {cs : List AV} (hl : leafL cs = true) (h : AV.menL d (rnL m cs) = true) : ∃ b, AV.menL b cs = true ∧ d = rnm m b := by
  rw [rnL_map] at h
  obtain ⟨c, hc, hb⟩ := menL_iff.1 h
  obtain ⟨c', hc', rfl⟩ := List.mem_map.1 hc
  obtain ⟨b, h1, h2⟩ := men1_rn' (leafL_get hl c' hc') hb
  exact ⟨b, menL_of_mem hc' h1, h2⟩
theorem men2_rn' {d : Nat} {c : AV} (hw : c.wf2 = true) (h : (c.rn2 m).men2 d = true) : ∃ b, c.men2 b = true ∧ d = rnm m b := by
  cases c with
  | agg cs => exact menL_rn' hw h
  | tup => cases hw
  | d x => exact men1_rn' (c := .d x) rfl h
  | ptr b o => exact men1_rn' (c := .ptr b o) rfl h
  | eptr b s i o => exact men1_rn' (c := .eptr b s i o) rfl h
  | own b s n => exact men1_rn' (c := .own b s n) rfl h
  | fnv f cs => exact men1_rn' (c := .fnv f cs) rfl h
  | sptr b s i j => exact men1_rn' (c := .sptr b s i j) rfl h
  | sub b v i => exact men1_rn' (c := .sub b v i) rfl h
  | mptr b v i j => exact men1_rn' (c := .mptr b v i j) rfl h
  | mp b => exact men1_rn' (c := .mp b) rfl h
  | view b s i j => exact men1_rn' (c := .view b s i j) rfl h
  | nil s => exact men1_rn' (c := .nil s) rfl h
  | undef => exact men1_rn' (c := .undef) rfl h
  | junk => exact men1_rn' (c := .junk) rfl h
theorem men_rn' {d : Nat} {c : AV} (hw : c.wf = true) (h : (c.rn m).men d = true) : ∃ b, c.men b = true ∧ d = rnm m b := by
  cases c with
  | tup cs =>
    have h' : AV.menT d (rnT m cs) = true := h
    rw [rnT_map] at h'
    obtain ⟨c, hc, hb⟩ := menT_iff.1 h'
    obtain ⟨c', hc', rfl⟩ := List.mem_map.1 hc
    obtain ⟨b, h1, h2⟩ := men2_rn' (wfT_get hw c' hc') hb
    exact ⟨b, menT_of_mem hc' h1, h2⟩
  | agg cs => exact men2_rn' (c := .agg cs) hw h
  | d x => exact men2_rn' (c := .d x) rfl h
  | ptr b o => exact men2_rn' (c := .ptr b o) rfl h
  | eptr b s i o => exact men2_rn' (c := .eptr b s i o) rfl h
  | own b s n => exact men2_rn' (c := .own b s n) rfl h
  | fnv f cs => exact men2_rn' (c := .fnv f cs) rfl h
  | sptr b s i j => exact men2_rn' (c := .sptr b s i j) rfl h
  | sub b v i => exact men2_rn' (c := .sub b v i) rfl h
  | mptr b v i j => exact men2_rn' (c := .mptr b v i j) rfl h
  | mp b => exact men2_rn' (c := .mp b) rfl h
  | view b s i j => exact men2_rn' (c := .view b s i j) rfl h
  | nil s => exact men2_rn' (c := .nil s) rfl h
  | undef => exact men2_rn' (c := .undef) rfl h
  | junk => exact men2_rn' (c := .junk) rfl h
theorem bx_men_rn' {d : Nat} {x : Bx} (hw : ∀ cs fz, x = .var cs fz → leafL cs = true) (h : (x.rn m).men d = true) : ∃ b, x.men b = true ∧ d = rnm m b := by
  cases x with
  | var cs fz => exact menL_rn' (hw cs fz rfl) h
  | iter k n seen =>
    cases k with
    | none => cases h
    | some c => exact ⟨c, Nat.beq_refl c, Nat.eq_of_beq_eq_true h⟩
  | _ => cases h

/-- A layout with some names' places given. -/
noncomputable def Lay.back (L L0 : Lay) (m : List (Nat × Nat)) (us : List Nat) : Lay :=
  let q : Nat → Option Nat := fun c => us.find? fun b => Nat.beq (rnm m b) c
  ⟨fun c => match q c with | some b => L0.ι b | none => L.ι c, fun c => match q c with | some b => L0.hd b | none => L.hd c,
    fun c => match q c with | some b => L0.sub b | none => L.sub c, fun c => match q c with | some b => L0.top b | none => L.top c⟩
theorem find_rn {us : List Nat} {b : Nat} (hb : b ∈ us) (hi : ∀ b ∈ us, ∀ b' ∈ us, rnm m b = rnm m b' → b = b') : us.find? (fun b' => Nat.beq (rnm m b') (rnm m b)) = some b := by
  induction us with
  | nil => cases hb
  | cons c us ih =>
    rw [List.find?_cons]
    cases e : Nat.beq (rnm m c) (rnm m b) with
    | true =>
      have := hi c List.mem_cons_self b hb (Nat.eq_of_beq_eq_true e)
      rw [this]
    | false =>
      cases hb with
      | head => rw [Nat.beq_refl] at e; cases e
      | tail _ hb => exact ih hb fun x hx y hy => hi x (List.mem_cons_of_mem _ hx) y (List.mem_cons_of_mem _ hy)
theorem back_eq {L L0 : Lay} {us : List Nat} (hi : ∀ b ∈ us, ∀ b' ∈ us, rnm m b = rnm m b' → b = b') {b : Nat} (hb : b ∈ us) : ((L.back L0 m us).thru m).eqAt L0 b ∧ ((L.back L0 m us).thru m).top b = L0.top b := by
  have e := find_rn hb hi
  have h1 : ((L.back L0 m us).thru m).ι b = L0.ι b := by simp only [Lay.thru, Lay.back, e]
  have h2 : ((L.back L0 m us).thru m).hd b = L0.hd b := by simp only [Lay.thru, Lay.back, e]
  have h3 : ((L.back L0 m us).thru m).sub b = L0.sub b := by simp only [Lay.thru, Lay.back, e]
  have h4 : ((L.back L0 m us).thru m).top b = L0.top b := by simp only [Lay.thru, Lay.back, e]
  exact ⟨⟨h1, h2, Nat.le_of_eq h4.symm, fun v _ i => by rw [h3]⟩, h4⟩
end
/-- A contract under other names. -/
theorem EvX.rn {P : Program} {f : FuncId} {xs : List AV} {hs us : List (Nat × Bx)} {v : AV} (m : List (Nat × Nat)) (h : EvX P f xs hs v us)
    (hok : (injN m (namesB hs ++ namesB us) [] && wfA xs && wfA [v] && wfB hs && wfB us && okXs hs xs && okCl hs hs) = true) : EvX P f (rnA m xs) (rnB m hs) (v.rn m) (rnB m us) := by
  simp only [Bool.and_eq_true] at hok
  obtain ⟨⟨⟨⟨⟨⟨k1, k2⟩, k3⟩, k4⟩, k5⟩, k6⟩, k7⟩ := hok
  have hinj := (injN_spec k1).2
  have hv : v.wf = true := wfA_get k3 0 v rfl
  have nH : ∀ b, b ∈ namesB hs → b ∈ namesB hs ++ namesB us := fun b hb => List.mem_append_left _ hb
  have nU : ∀ b, b ∈ namesB us → b ∈ namesB hs ++ namesB us := fun b hb => List.mem_append_right _ hb
  have gH : ∀ b, b ∈ namesB hs ++ namesB us → lk (rnB m hs) (rnm m b) = (lk hs b).map (Bx.rn m) := fun b hb => lk_rnB fun c hc => hinj b hb c (nH c hc)
  have gU : ∀ b, b ∈ namesB hs ++ namesB us → lk (rnB m us) (rnm m b) = (lk us b).map (Bx.rn m) := fun b hb => lk_rnB fun c hc => hinj b hb c (nU c hc)
  have inH : ∀ c y, lk (rnB m hs) c = some y → ∃ b x, c = rnm m b ∧ b ∈ namesB hs ∧ lk hs b = some x ∧ y = x.rn m := by
    intro c y hy
    obtain ⟨b, h1, rfl⟩ := lk_rnB_some hy
    rw [gH b (nH b h1), Option.map_eq_some_iff] at hy
    obtain ⟨x, hx, rfl⟩ := hy
    exact ⟨b, x, rfl, h1, hx, rfl⟩
  have inU : ∀ c y, lk (rnB m us) c = some y → ∃ b x, c = rnm m b ∧ b ∈ namesB us ∧ lk us b = some x ∧ y = x.rn m := by
    intro c y hy
    obtain ⟨b, h1, rfl⟩ := lk_rnB_some hy
    rw [gU b (nU b h1), Option.map_eq_some_iff] at hy
    obtain ⟨x, hx, rfl⟩ := hy
    exact ⟨b, x, rfl, h1, hx, rfl⟩
  have memH : ∀ b x, lk hs b = some x → b ∈ namesB hs := fun b x hx => mem_names.2 (by rw [hx]; simp)
  have memU : ∀ b x, lk us b = some x → b ∈ namesB us := fun b x hx => mem_names.2 (by rw [hx]; simp)
  refine ⟨h.fn, fun B0 w A L vals hB0 hA hsz hreps hmen hH => ?_⟩
  have cl : ∀ g, claims (L.thru m) hs g ↔ claims L (rnB m hs) g := by
    intro g
    constructor
    · rintro ⟨b, x, h1, h2⟩
      exact ⟨rnm m b, x.rn m, by rw [gH b (nH b (memH b x h1)), h1]; rfl, own_rn.2 h2⟩
    · rintro ⟨c, y, h1, h2⟩
      obtain ⟨b, x, rfl, hb, hx, rfl⟩ := inH c y h1
      exact ⟨b, x, hx, own_rn.1 h2⟩
  have hH0 : HOk B0 (L.thru m) w A hs := by
    refine ⟨fun b x hx => ?_, fun b x g hx hg => ?_, fun b b' x x' g hx hx' hg hg' => ?_, okCl_get k7⟩
    · exact (br_rn (wfB_get k4 b x hx)).1 (hH.br (rnm m b) (x.rn m) (by rw [gH b (nH b (memH b x hx)), hx]; rfl))
    · exact hH.lo (rnm m b) (x.rn m) g (by rw [gH b (nH b (memH b x hx)), hx]; rfl) (own_rn.2 hg)
    · exact hinj b (nH b (memH b x hx)) b' (nH b' (memH b' x' hx')) (hH.inj _ _ (x.rn m) (x'.rn m) g (by rw [gH b (nH b (memH b x hx)), hx]; rfl) (by rw [gH b' (nH b' (memH b' x' hx')), hx']; rfl) (own_rn.2 hg) (own_rn.2 hg'))
  refine (h.run B0 w A (L.thru m) vals hB0 hA (by rw [← hsz, rnA_map]; simp) (fun j c u hc hu => (rn_rv (wfA_get k2 j c hc)).1 (hreps j (c.rn m) u (by rw [rnA_map]; simp [hc]) hu)) (okXs_get k6) hH0).mono fun e w' hpost => ?_
  obtain ⟨u, A', L0, rfl, p1, p2, p3, p4, p5, p6, p7, p8, p9, q1, q2, q3, q4, q5⟩ := hpost
  have hiU : ∀ b ∈ namesB us, ∀ b' ∈ namesB us, rnm m b = rnm m b' → b = b' := fun b hb b' hb' => hinj b (nU b hb) b' (nU b' hb')
  have bk : ∀ b, b ∈ namesB us → ((L.back L0 m (namesB us)).thru m).eqAt L0 b ∧ ((L.back L0 m (namesB us)).thru m).top b = L0.top b := fun b hb => back_eq hiU hb
  have brU : ∀ b x, lk us b = some x → BR B0 ((L.back L0 m (namesB us)).thru m) w' A' b x ∧ ∀ g, own ((L.back L0 m (namesB us)).thru m) b x g ↔ own L0 b x g := by
    intro b x hx
    obtain ⟨e1, e2⟩ := bk b (memU b x hx)
    exact ⟨(q2.br b x hx).keep (fun _ _ h => h) (fun _ _ _ => rfl) (fun _ _ => rfl) (fun _ _ _ h => h) e1 e2 fun b' hm => (bk b' (mem_names.2 (q2.cl b x b' hx hm))).1, fun g => own_eq e1 (q2.br b x hx).ver⟩
  refine ⟨u, A', L.back L0 m (namesB us), rfl, (rn_rv hv).2 (p1.frame' (fun _ _ h => h) (fun _ _ _ => rfl) fun b hb => (bk b (mem_names.2 (q5 b hb))).1), p2, p3, p4, p5, fun k hk hc => p6 k hk fun h => hc ((cl k).1 h), p7, p8, p9,
    fun g o hg => ?_, ⟨fun c y hy => ?_, fun c y g hy hg => ?_, fun c c' y y' g hy hy' hg hg' => ?_, fun c y d hy hm => ?_⟩, fun g hg => ?_, fun c hc hc' => ?_, fun c hc => ?_⟩
  · rcases q1 g o hg with h | h | h
    · exact .inl h
    · exact .inr (.inl h)
    · exact .inr (.inr ((cl g).1 h))
  · obtain ⟨b, x, rfl, hb, hx, rfl⟩ := inU c y hy
    exact (br_rn (wfB_get k5 b x hx)).2 (brU b x hx).1
  · obtain ⟨b, x, rfl, hb, hx, rfl⟩ := inU c y hy
    exact q2.lo b x g hx (((brU b x hx).2 g).1 (own_rn.1 hg))
  · obtain ⟨b, x, rfl, hb, hx, rfl⟩ := inU c y hy
    obtain ⟨b', x', rfl, hb', hx', rfl⟩ := inU c' y' hy'
    rw [q2.inj b b' x x' g hx hx' (((brU b x hx).2 g).1 (own_rn.1 hg)) (((brU b' x' hx').2 g).1 (own_rn.1 hg'))]
  · obtain ⟨b, x, rfl, hb, hx, rfl⟩ := inU c y hy
    obtain ⟨b', h1, rfl⟩ := bx_men_rn' (wfB_get k5 b x hx) hm
    have := q2.cl b x b' hx h1
    rw [gU b' (nU b' (mem_names.2 this))]
    cases hq : lk us b' with
    | none => exact absurd hq this
    | some y => simp
  · obtain ⟨c, y, hy, ho⟩ := hg
    obtain ⟨b, x, rfl, hb, hx, rfl⟩ := inU c y hy
    rcases q3 g ⟨b, x, hx, ((brU b x hx).2 g).1 (own_rn.1 ho)⟩ with h | h
    · exact .inl h
    · exact .inr ((cl g).1 h)
  · cases hy : lk (rnB m hs) c with
    | none => exact absurd hy hc
    | some y =>
      cases hz : lk (rnB m us) c with
      | none => exact absurd hz hc'
      | some z =>
        obtain ⟨b, x, rfl, hb, hx, rfl⟩ := inH c y hy
        obtain ⟨b', x', he, hb', hx', rfl⟩ := inU _ z hz
        have := hinj b (nH b hb) b' (nU b' hb') he
        subst this
        have e1 := (bk b hb').1.trans (q4 b (by rw [hx]; simp) (by rw [hx']; simp))
        exact ⟨e1.ι, e1.hd, e1.top, e1.sub⟩
  · obtain ⟨b, h1, rfl⟩ := men_rn' hv hc
    have := q5 b h1
    rw [gU b (nU b (mem_names.2 this))]
    cases hq : lk us b with
    | none => exact absurd hq this
    | some y => simp
end Go.Vm
end

section
/- Contracts under other names of the boxes: the usual shapes. -/
namespace Go.Vm
variable {P : Program} {f : FuncId}
theorem rnA_d (m : List (Nat × Nat)) (xs : List D) : rnA m (xs.map .d) = xs.map .d := by
  rw [rnA_map, List.map_map]; rfl
theorem wfA_d : ∀ xs : List D, wfA (xs.map .d) = true
  | [] => rfl
  | _ :: xs => wfA_d xs
theorem okXs_d (bx : List (Nat × Bx)) : ∀ xs : List D, okXs bx (xs.map .d) = true
  | [] => rfl
  | _ :: xs => okXs_d bx xs
theorem EvX.at1t {k n et et' k' : Nat} {es es' : List D} {fz fz' : Bool} {xs : List D} (h : EvX P f (.own 1000 k n :: xs.map .d) [(1000, .row et k es fz)] (.tup []) [(1000, .row et' k' es' fz')]) (b : Nat) :
    EvX P f (.own b k n :: xs.map .d) [(b, .row et k es fz)] (.tup []) [(b, .row et' k' es' fz')] := by
  have := h.rn [(1000, b)] (by simp [injN, injN.chk, namesB, rnm, lk, wfA, AV.wf, wfT, wfA_d, wfB, okXs, okXs_d, AV.okIn, AV.mens, okN, hasB, okCl, Bx.okIn])
  rw [rnA, rnA_d] at this
  exact this
/-- A new row is handed back. -/
theorem EvX.new1 {k n et : Nat} {es : List D} {fz : Bool} {xs : List D} (h : EvX P f (xs.map .d) [] (.own 9 k n) [(9, .row et k es fz)]) (b : Nat) : EvX P f (xs.map .d) [] (.own b k n) [(b, .row et k es fz)] := by
  have := h.rn [(9, b)] (by simp [injN, injN.chk, namesB, wfA, AV.wf, wfA_d, wfB, okXs_d, okCl])
  rw [rnA_d] at this
  exact this
/-- A new map is handed back. -/
theorem EvX.newM {kt et : Nat} {kd : TypeDesc} {es : List (D × D)} {xs : List D} (h : EvX P f (xs.map .d) [] (.mp 9) [(9, .map kt et kd es)]) (b : Nat) : EvX P f (xs.map .d) [] (.mp b) [(b, .map kt et kd es)] := by
  have := h.rn [(9, b)] (by simp [injN, injN.chk, namesB, wfA, AV.wf, wfA_d, wfB, okXs_d, okCl])
  rw [rnA_d] at this
  exact this
end Go.Vm
end

section
/- A contract that is handed a closure as data, called with a closure that has captured variables: these are frozen. -/
namespace Go.Vm
def uncC (b : Nat) (ds : List D) : Cap → Cap
  | .box b' => match Nat.beq b b' with
    | true => .dat (.ref ds 0)
    | false => .box b'
  | .dat x => .dat x
def datL : List Cap → Option (List D)
  | [] => some []
  | c :: r => match c with
    | .box _ => none
    | .dat x => match datL r with
      | some l => some (x :: l)
      | none => none
def unc (b : Nat) (ds : List D) (v : AV) : AV := match v with
  | .fnv f cs => match datL (cs.map (uncC b ds)) with
    | some l => .d (.fn f l)
    | none => .fnv f (cs.map (uncC b ds))
  | .ptr b' off => match Nat.beq b b' with
    | true => .d (.ref ds off)
    | false => .ptr b' off
  | v => v
def noMen (b : Nat) : List AV → Bool
  | [] => true
  | c :: r => match c.men b with
    | true => false
    | false => noMen b r
def noMenB (b : Nat) : List (Nat × Bx) → Bool
  | [] => true
  | (b', x) :: r => match Nat.beq b b', x.men b with
    | false, false => noMenB b r
    | _, _ => false
theorem noMen_mem {b : Nat} : ∀ {l : List AV}, noMen b l = true → ∀ c ∈ l, c.men b = false
  | c :: r, h, c', hc => by
    rw [noMen] at h
    split at h
    · cases h
    · rename_i h1
      rcases List.mem_cons.1 hc with rfl | hc
      · exact h1
      · exact noMen_mem h c' hc
theorem noMenB_lk {b : Nat} : ∀ {l : List (Nat × Bx)}, noMenB b l = true → ∀ b' x, lk l b' = some x → b' ≠ b ∧ x.men b = false
  | [], _, b', x, hx => by cases hx
  | (k, y) :: r, h, b', x, hx => by
    rw [noMenB] at h
    split at h
    · rename_i h1 h2
      rw [lk] at hx
      split at hx
      · rename_i h3
        cases hx
        have := Nat.eq_of_beq_eq_true h3
        subst this
        refine ⟨?_, h2⟩
        rintro rfl
        rw [Nat.beq_refl] at h1; cases h1
      · exact noMenB_lk h b' x hx
    · cases h
theorem datL_get : ∀ {cs : List Cap} {l : List D}, datL cs = some l → l.length = cs.length ∧ ∀ (j : Nat) c, l[j]? = some c → cs[j]? = some (.dat c)
  | [], l, h => by cases h; exact ⟨rfl, fun j c h => by simp at h⟩
  | c :: r, l, h => by
    cases c with
    | box b => cases h
    | dat x =>
      simp only [datL] at h
      split at h
      · rename_i l' hl
        cases h
        obtain ⟨h1, h2⟩ := datL_get hl
        refine ⟨by simp [h1], fun j c hc => ?_⟩
        cases j with
        | zero => simp only [List.getElem?_cons_zero, Option.some.injEq] at hc ⊢; rw [hc]
        | succ j => simp only [List.getElem?_cons_succ] at hc ⊢; exact h2 j c hc
      · cases h
theorem capMen_iff {b : Nat} : ∀ {cs : List Cap}, capMen b cs = true ↔ .box b ∈ cs
  | [] => ⟨(fun h => by cases h), fun h => by cases h⟩
  | c :: r => by
    cases c with
    | box b' =>
      simp only [capMen, List.mem_cons, Cap.box.injEq]
      cases h : Nat.beq b b' with
      | true => exact ⟨(fun _ => .inl (Nat.eq_of_beq_eq_true h)), fun _ => rfl⟩
      | false => exact ⟨(fun h' => .inr (capMen_iff.1 h')), fun h' => by
          rcases h' with rfl | h'
          · rw [Nat.beq_refl] at h; cases h
          · exact capMen_iff.2 h'⟩
    | dat x =>
      simp only [capMen, List.mem_cons, reduceCtorEq, false_or]
      exact capMen_iff
theorem unc_men {b b' : Nat} {ds : List D} {c : AV} (h : (unc b ds c).men b' = true) : c.men b' = true := by
  cases c with
  | fnv f cs =>
    simp only [unc] at h
    split at h
    · cases h
    · simp only [AV.men] at h ⊢
      rw [capMen_iff] at h ⊢
      obtain ⟨x, hx, e⟩ := List.mem_map.1 h
      cases x with
      | dat y => simp [uncC] at e
      | box k =>
        simp only [uncC] at e
        split at e
        · cases e
        · rw [← e]; exact hx
  | ptr k off =>
    simp only [unc] at h
    split at h
    · cases h
    · exact h
  | _ => exact h
theorem unc_rv {L : Lay} {w : World} {A : Sta} {b : Nat} {ds : List D} (hr : ∀ off, Rep w A (.ref ds off) (.pointer (some ⟨L.ι b, off, none⟩))) {c : AV} {u : Value} (h : RV L w A c u) : RV L w A (unc b ds c) u := by
  have hc : ∀ (x : Cap) u, CapV L w A x u → CapV L w A (uncC b ds x) u := by
    intro x u hx
    cases x with
    | dat y => exact hx
    | box k =>
      simp only [uncC]
      split
      · rename_i e
        have := Nat.eq_of_beq_eq_true e
        subst this
        simp only [CapV] at hx ⊢
        rw [hx]; exact hr 0
      · exact hx
  cases h with
  | @fnv f caps vs hl hv =>
    have hv' : ∀ (j : Nat) c v, (caps.map (uncC b ds))[j]? = some c → vs[j]? = some v → CapV L w A c v := by
      intro j c v h1 h2
      rw [List.getElem?_map, Option.map_eq_some_iff] at h1
      obtain ⟨x, h3, rfl⟩ := h1
      exact hc x v (hv j x v h3 h2)
    simp only [unc]
    split
    · rename_i l hd
      obtain ⟨h1, h2⟩ := datL_get hd
      exact .d (.fn (by rw [h1, List.length_map]; exact hl) fun j c v h3 h4 => hv' j _ v (h2 j c h3) h4)
    · exact .fnv (by rw [List.length_map]; exact hl) hv'
  | ptr k off =>
    simp only [unc]
    split
    · rename_i e
      have := Nat.eq_of_beq_eq_true e
      subst this
      exact .d (hr off)
    · exact .ptr k off
  | d h => exact .d h
  | agg hl h1 hr => exact .agg hl h1 hr
  | tup hl hr => exact .tup hl hr
  | eptr b sz i off => exact .eptr b sz i off
  | own b sz n h1 => exact .own b sz n h1
  | sptr b sz i j => exact .sptr b sz i j
  | sub b v i h1 hv => exact .sub b v i h1 hv
  | mptr b v i j g hg hv => exact .mptr b v i j g hg hv
  | mp b => exact .mp b
  | view b sz lo hi cap g hg => exact .view b sz lo hi cap g hg
  | nil sz => exact .nil sz
  | undef => exact .undef
  | junk => exact .junk _
/-- A layout with one box as in another one. -/
def Lay.put (L' L : Lay) (b : Nat) : Lay := ⟨fun k => if k = b then L.ι k else L'.ι k, fun k => if k = b then L.hd k else L'.hd k, fun k => if k = b then L.sub k else L'.sub k, fun k => if k = b then L.top k else L'.top k⟩
theorem Lay.put_ne {L' L : Lay} {b k : Nat} (h : k ≠ b) : (L'.put L b).eqAt L' k := ⟨if_neg h, if_neg h, Nat.le_of_eq (if_neg h).symm, fun v _ i => by simp only [Lay.put, if_neg h]⟩
theorem Lay.put_eq {L' L : Lay} {b : Nat} : (L'.put L b).eqAt L b := ⟨if_pos rfl, if_pos rfl, Nat.le_of_eq (if_pos rfl).symm, fun v _ i => by simp only [Lay.put, if_pos]⟩
theorem menL_d {b : Nat} : ∀ ds : List D, AV.menL b (ds.map .d) = false
  | [] => rfl
  | _ :: r => menL_d r
theorem lk_c {α : Type} {l : List (Nat × α)} {b k : Nat} {x : α} : lk ((b, x) :: l) k = if k = b then some x else lk l k := by
  rw [lk]
  by_cases h : k = b
  · subst h; rw [Nat.beq_refl, if_pos rfl]
  · rw [if_neg h]
    cases e : Nat.beq b k with
    | true => exact absurd (Nat.eq_of_beq_eq_true e).symm h
    | false => rfl
theorem EvX.cap {P : Program} {f : FuncId} {xs : List AV} {hs us : List (Nat × Bx)} {v : AV} (b : Nat) (ds : List D) (fz : Bool) (h : EvX P f (xs.map (unc b ds)) hs v us)
    (hok : (ds.all D.one && (noMen b (xs.map (unc b ds)) && (noMenB b hs && (noMenB b us && !v.men b)))) = true) : EvX P f xs ((b, .var (ds.map .d) fz) :: hs) v ((b, .var (ds.map .d) true) :: us) := by
  simp only [Bool.and_eq_true, List.all_eq_true, Bool.not_eq_true'] at hok
  obtain ⟨h1, h2, h3, h4, h5⟩ := hok
  refine ⟨h.fn, fun B0 w A L vals hB hA hn hr hm hk => ?_⟩
  obtain ⟨C, t, b1, b2, b3, b4⟩ := hk.br b _ (by rw [lk_c, if_pos rfl])
  have hlb : lk ((b, Bx.var (ds.map .d) fz) :: hs) b = some (Bx.var (ds.map .d) fz) := by rw [lk_c, if_pos rfl]
  obtain ⟨lo1, lo2⟩ := hk.lo b _ (L.ι b) hlb rfl
  rw [List.length_map] at b2
  have hA1 : ∀ g o, A g o → frzSta A (fun g o => g = L.ι b ∧ o < ds.length) g o := fun _ _ => .inl
  have hcell : ∀ (j : Nat) c, ds[j]? = some c → ∃ u, w.cell? ⟨L.ι b, j, none⟩ = some u ∧ Rep w A c u := by
    intro j c hc
    have hlt := lt_of_get hc
    obtain ⟨u, hu⟩ := arr_get (C := C) (j := j) (by omega)
    exact ⟨u, by rw [cell_of_row w (L.ι b) j C t (0, 0) b1]; exact hu, rv_d (b3 j (.d c) u (by simp [hc]) hu)⟩
  have hrep : ∀ off, Rep w (frzSta A fun g o => g = L.ι b ∧ o < ds.length) (.ref ds off) (.pointer (some ⟨L.ι b, off, none⟩)) := by
    intro off
    have := Rep.ref (w := w) (A := frzSta A fun g o => g = L.ι b ∧ o < ds.length) (cs := ds) (off := off) (L.ι b) 0 (fun j => (w.cell? ⟨L.ι b, j, none⟩).getD undef) h1 (fun j c hc => by
      obtain ⟨u, q1, q2⟩ := hcell j c hc
      rw [Nat.zero_add, q1]
      exact ⟨.inr ⟨rfl, lt_of_get hc⟩, rfl⟩) fun j c hc => by
      obtain ⟨u, q1, q2⟩ := hcell j c hc
      rw [q1]
      exact q2.frame hA1 fun _ _ _ => rfl
    rwa [Nat.zero_add] at this
  have hne : ∀ b' x, lk hs b' = some x → lk ((b, Bx.var (ds.map .d) fz) :: hs) b' = some x := fun b' x hx => by rw [lk_c, if_neg (noMenB_lk h3 b' x hx).1]; exact hx
  have hsub : ∀ {g}, claims L hs g → claims L ((b, Bx.var (ds.map .d) fz) :: hs) g := fun ⟨b', x, hx, ho⟩ => ⟨b', x, hne b' x hx, ho⟩
  have hnot : ¬ claims L hs (L.ι b) := fun ⟨b', x, hx, ho⟩ => (noMenB_lk h3 b' x hx).1 (hk.inj b' b _ _ _ (hne b' x hx) hlb ho rfl)
  refine (h.run B0 w (frzSta A fun g o => g = L.ι b ∧ o < ds.length) L vals hB (fun g o hg => by
      rcases hg with hg | hg
      · exact hA g o hg
      · rw [hg.1]; exact lo2) (by rw [List.length_map]; exact hn) (fun j c u hc hu => by
      rw [List.getElem?_map, Option.map_eq_some_iff] at hc
      obtain ⟨c', hc', rfl⟩ := hc
      exact unc_rv hrep ((hr j c' u hc' hu).frame hA1 (fun _ _ _ => rfl) fun _ _ => .rfl')) (fun j c b' hc hb' => by
      have hc1 := hc
      rw [List.getElem?_map, Option.map_eq_some_iff] at hc
      obtain ⟨c', hc', rfl⟩ := hc
      have := hm j c' b' hc' (unc_men hb')
      rw [lk_c] at this
      split at this
      · rename_i e
        subst e
        rw [noMen_mem h2 _ (List.mem_of_getElem? hc1)] at hb'; cases hb'
      · exact this) ⟨fun b' x hx => by
      refine (hk.br b' x (hne b' x hx)).keep hA1 (fun _ _ _ => rfl) (fun _ _ => rfl) (fun g o ho hg => ?_) .rfl' rfl fun _ _ => .rfl'
      rcases hg with hg | ⟨rfl, _⟩
      · exact hg
      · exact absurd ⟨b', x, hx, ho⟩ hnot, fun b' x g hx ho => hk.lo b' x g (hne b' x hx) ho, fun b' b'' x x' g hx hx' ho ho' => hk.inj b' b'' x x' g (hne b' x hx) (hne b'' x' hx') ho ho', fun b' x b'' hx hb'' => by
      have := hk.cl b' x b'' (hne b' x hx) hb''
      rw [lk_c] at this
      split at this
      · rename_i e
        subst e
        rw [(noMenB_lk h3 b' x hx).2] at hb''; cases hb''
      · exact this⟩).mono fun e w' hpost => ?_
  obtain ⟨u, A', L', p1, p2, p3, p4, p5, p6, p7, p8, p9, p10, p11, p12, p13, p14, p15⟩ := hpost
  have hput : ∀ b' x, lk us b' = some x → (L'.put L b).eqAt L' b' := fun b' x hx => Lay.put_ne (noMenB_lk h4 b' x hx).1
  have hown : ∀ b' x g, lk us b' = some x → (own (L'.put L b) b' x g ↔ own L' b' x g) := fun b' x g hx => own_eq (hput b' x hx) (p12.br b' x hx).ver
  have hlow : w'.heap[L.ι b]? = w.heap[L.ι b]? := p7 _ lo2 hnot
  have hcl2 : ∀ {g}, claims L' us g → g ≠ L.ι b := by
    rintro g hg rfl
    rcases p13 _ hg with h | h
    · omega
    · exact hnot h
  refine ⟨u, A', L'.put L b, p1, p2.frame' (fun _ _ h => h) (fun _ _ _ => rfl) fun b' hb' => Lay.put_ne fun e => (by rw [e, h5] at hb'; cases hb'), p3, p4, p5, p6, fun k hk' hc => p7 k hk' fun h => hc (hsub h), fun g o hg => p8 g o (.inl hg), fun g o hg => p9 g o (.inl hg), p10, fun g o hg => ?_, ⟨fun b' x hx => ?_, fun b' x g hx ho => ?_, fun b' b'' x x' g hx hx' ho ho' => ?_, fun b' x b'' hx hb'' => ?_⟩, fun g hg => ?_, fun b' hb' hb'' => ?_, fun b' hb' => ?_⟩
  · rcases p11 g o hg with (h | ⟨rfl, _⟩) | h | h
    · exact .inl h
    · exact .inr (.inr ⟨b, _, hlb, rfl⟩)
    · exact .inr (.inl h)
    · exact .inr (.inr (hsub h))
  · rw [lk_c] at hx
    split at hx
    · rename_i e
      subst e; cases hx
      refine ⟨C, t, by rw [Lay.put_eq.ι, hlow]; exact b1, by rw [List.length_map]; exact b2, fun j c u hc hu => (b3 j c u hc hu).frame (fun g o hg => p8 g o (.inl hg)) (fun g o hg => p9 g o (.inl hg)) fun k hk' => ?_, fun hf => (by cases hf)⟩
      rw [List.getElem?_map, Option.map_eq_some_iff] at hc
      obtain ⟨d, _, rfl⟩ := hc
      cases hk'
    · exact (p12.br b' x hx).keep (fun _ _ h => h) (fun _ _ _ => rfl) (fun _ _ => rfl) (fun _ _ _ h => h) (hput b' x hx) (if_neg (noMenB_lk h4 b' x hx).1) fun b'' hb'' => Lay.put_ne fun e => by rw [e, (noMenB_lk h4 b' x hx).2] at hb''; cases hb''
  · rw [lk_c] at hx
    split at hx
    · rename_i e
      subst e; cases hx
      have e : g = L.ι b' := by rw [show g = (L'.put L b').ι b' from ho, Lay.put_eq.ι]
      rw [e]; exact ⟨lo1, by omega⟩
    · exact p12.lo b' x g hx ((hown b' x g hx).1 ho)
  · rw [lk_c] at hx hx'
    split at hx
    · rename_i e
      subst e; cases hx
      have e : g = L.ι b' := by rw [show g = (L'.put L b').ι b' from ho, Lay.put_eq.ι]
      split at hx'
      · rename_i e'; exact e'.symm
      · exact absurd e (hcl2 ⟨b'', x', hx', (hown b'' x' g hx').1 ho'⟩)
    · split at hx'
      · rename_i e'
        subst e'; cases hx'
        have e : g = L.ι b'' := by rw [show g = (L'.put L b'').ι b'' from ho', Lay.put_eq.ι]
        exact absurd e (hcl2 ⟨b', x, hx, (hown b' x g hx).1 ho⟩)
      · exact p12.inj b' b'' x x' g hx hx' ((hown b' x g hx).1 ho) ((hown b'' x' g hx').1 ho')
  · rw [lk_c] at hx
    split at hx
    · cases hx
      rw [show (Bx.var (ds.map .d) true).men b'' = AV.menL b'' (ds.map .d) from rfl, menL_d] at hb''; cases hb''
    · have := p12.cl b' x b'' hx hb''
      rw [lk_c]
      split
      · simp
      · exact this
  · obtain ⟨b', x, hx, ho⟩ := hg
    rw [lk_c] at hx
    split at hx
    · rename_i e
      subst e; cases hx
      have e : g = L.ι b' := by rw [show g = (L'.put L b').ι b' from ho, Lay.put_eq.ι]
      exact .inr ⟨b', _, hlb, e⟩
    · rcases p13 g ⟨b', x, hx, (hown b' x g hx).1 ho⟩ with h | h
      · exact .inl h
      · exact .inr (hsub h)
  · by_cases e : b' = b
    · subst e; exact Lay.put_eq
    · rw [lk_c, if_neg e] at hb' hb''
      exact (Lay.put_ne e).trans (p14 b' hb' hb'')
  · rw [lk_c]
    split
    · simp
    · exact p15 b' hb'
end Go.Vm
end

section
/- math/bits.Mul as a contract, out of the library. It names no program. -/
namespace Go.Vm
open Go.Shelf Go.Proofs Go.RowKit
theorem Ev.mulU {P : Program} {ρ : Ren} (L : Lays.n212 P ρ) (x y : Int) (hx : 0 ≤ x ∧ x < 18446744073709551616) (hy : 0 ≤ y ∧ y < 18446744073709551616) (h : x * y < 18446744073709551616) : Ev P (ρ.f 212) [.int .u64 x, .int .u64 y] (.tup [.int .u64 0, .int .u64 (x * y)]) := by
  refine ⟨⟨_, L.f212, rfl, rfl⟩, ?_⟩
  intro w A vals hA hl hv
  obtain ⟨v1, v2, rfl⟩ : ∃ v1 v2, vals = #[v1, v2] := by
    rcases vals with ⟨_ | ⟨v, _ | ⟨u, _ | ⟨z, r⟩⟩⟩⟩
    · simp at hl
    · simp at hl
    · exact ⟨v, u, rfl⟩
    · simp at hl
  have h1 := hv 0 _ v1 rfl rfl
  have h2 := hv 1 _ v2 rfl rfl
  cases h1; cases h2
  obtain ⟨a, rfl⟩ : ∃ a : Nat, x = a := ⟨x.toNat, by omega⟩
  obtain ⟨b, rfl⟩ : ∃ b : Nat, y = b := ⟨y.toNat, by omega⟩
  rw [← Int.natCast_mul] at h ⊢
  have e1 : a * b / 18446744073709551616 = 0 := Nat.div_eq_of_lt (by omega)
  have e2 : a * b % 18446744073709551616 = a * b := Nat.mod_eq_of_lt (by omega)
  refine (Any.bits_Mul L a b (by omega) (by omega) w).mono fun e w' he => ?_
  obtain ⟨rfl, rfl⟩ := he
  rw [e1, e2]
  refine ⟨_, A, rfl, .tup rfl fun j c v hc hv => ?_, BelowD.refl _, fun _ _ h => h, hA, fun _ _ h => .inl h⟩
  match j with
  | 0 => cases hc; cases hv; exact .int _ _
  | 1 => cases hc; cases hv; exact .int _ _
  | j + 2 => simp at hc
end Go.Vm
end

section
/- The library's sorts as contracts of calls that are handed a slice: rows whose cells are numbers, bools and texts. It names no program. -/
namespace Go.Vm
open Go.RowKit (Below)
open Go.Shelf Go.Proofs Go.RowKit Go.Lib Go.Sort
def D.plain : D → Bool
  | .int _ _ => true
  | .bool _ => true
  | .str _ => true
  | _ => false
def D.pv : D → Value
  | .int k n => .int k n
  | .bool b => .bool b
  | .str s => .string s
  | _ => undef
theorem D.rep_pv {w : World} {A : Sta} {d : D} (h : d.plain = true) : Rep w A d d.pv := by
  cases d <;> first | (cases h; done) | constructor
theorem D.pv_of {w : World} {A : Sta} {d : D} {v : Value} (h : d.plain = true) (hr : Rep w A d v) : v = d.pv := by
  cases hr <;> first | (cases h; done) | rfl
theorem D.pv_one {d : D} (h : d.plain = true) : d.pv.oneCell' = true := by
  cases d <;> first | (cases h; done) | rfl
theorem D.plain_one {d : D} (h : d.plain = true) : d.one = true := by
  cases d <;> first | (cases h; done) | rfl

/-- What only grows, and is read on: draws, then new blocks. -/
theorem grown_of_below {w w' : World} (h : BelowD w w') : ∃ q os, w' = grow (w.drewN q) os := by
  refine ⟨w'.drawn - w.drawn, w'.heap.extract w.heap.size w'.heap.size, ?_⟩
  have hh : w'.heap = w.heap ++ w'.heap.extract w.heap.size w'.heap.size := by
    apply Array.ext_getElem?
    intro k
    have hs := h.size
    rw [Array.getElem?_append]
    split
    · rename_i hk; exact h.block k hk
    · rename_i hk
      rw [Array.getElem?_extract]
      split
      · congr 1; omega
      · rw [Array.getElem?_eq_none (by omega)]
  obtain ⟨⟨h1, h2, h3, h4, h5⟩, h6⟩ := h
  cases w; cases w'
  simp only [World.drewN, grow] at *
  subst h1; subst h2; subst h3
  rw [← hh]
  congr 1
  omega

section
variable {α : Type} [Inhabited α] (f : α → D) (k : Nat)
def encD (x : α) : List Value := (f x).cells.map D.pv
/-- A row, as the library's sort speaks of it. -/
theorem holds_of_row {B0 : Nat} {L : Lay} {w : World} {A : Sta} {b et : Nat} {l : List α} (hk : ∀ x, (f x).cells.length = k) (hp : ∀ x, ∀ c ∈ (f x).cells, c.plain = true) (h : BR B0 L w A b (.row et k (l.map f) false)) (hl : l ≠ []) :
    ∃ cap cur, L.hd b = .slice (some ⟨L.ι b, 0, none⟩) l.length cap ∧ w.heap[L.ι b]? = some (.cells cur et (0, 0)) ∧ l.length ≤ cap ∧ cap ≤ maxLen ∧ cur.size = cap * k ∧ B0 ≤ L.ι b ∧ L.ι b < w.heap.size ∧ (∀ o, ¬ A (L.ι b) o) ∧ HoldsK (encD f) k w (L.ι b) 0 l.toArray := by
  obtain ⟨xs, ⟨h1, h2⟩, h3, h4, h5, h6⟩ := h
  have hlen : (l.map f).length = l.length := List.length_map _
  rw [hlen] at h1 h2
  rcases h2 with ⟨_, h0⟩ | ⟨g, cap, cur, hv, hb, hh, hc, hm, hcs, htk⟩
  · exact absurd (List.eq_nil_of_length_eq_zero h0) hl
  · have hg : g = L.ι b := h5 g (by rw [hv]; rfl)
    subst hg
    have hlt : L.ι b < w.heap.size := by
      rcases Nat.lt_or_ge (L.ι b) w.heap.size with h | h
      · exact h
      · rw [Array.getElem?_eq_none h] at hh; cases hh
    refine ⟨cap, cur, hv, hh, hc, hm, hcs, hb, hlt, fun o ho => ?_, fun t ht => ?_⟩
    · have := (h6 (by rw [hv]; intro h; cases h) o ho).1
      cases this
    · rw [Nat.zero_add]
      rw [size_flatK] at ht
      simp only [List.size_toArray] at ht
      refine ⟨?_, by simp [World.frozen?, hh]⟩
      have k0 : 0 < k := by
        rcases Nat.eq_zero_or_pos k with h | h
        · rw [h] at ht; omega
        · exact h
      have hi : t / k < l.length := Nat.div_lt_of_lt_mul (by rw [Nat.mul_comm]; exact ht)
      have hj : t % k < k := Nat.mod_lt _ k0
      have e : t / k * k + t % k = t := Nat.div_add_mod' t k
      obtain ⟨u, hx⟩ : ∃ u, xs[t]? = some u := ⟨_, List.getElem?_eq_getElem (by rw [h1]; exact ht)⟩
      obtain ⟨c, hc1⟩ : ∃ c, (f l[t / k]).cells[t % k]? = some c := ⟨_, List.getElem?_eq_getElem (by rw [hk l[t / k]]; exact hj)⟩
      have hr := h4 (t / k) (f l[t / k]) (t % k) _ u (by simp [hi]) hc1 (by rw [e]; exact hx)
      have hv' := D.pv_of (hp _ _ (List.mem_of_getElem? hc1)) hr
      have hcell : w.cell? ⟨L.ι b, t, none⟩ = some u := by
        rw [cell_of_row w (L.ι b) t cur et (0, 0) hh, ← Array.getElem?_toList]
        rw [← htk, List.getElem?_take, if_pos ht] at hx
        exact hx
      rw [hcell, hv', get_flatK _ _ _ _ (by simpa using ht)]
      simp only [id, encD]
      rw [getElem!_pos l.toArray (t / k) (by simpa using hi)]
      simp only [List.getElem_toArray]
      rw [getElem!_pos ((f l[t / k]).cells.map D.pv) (t % k) (by rw [List.length_map, hk]; exact hj), List.getElem_map]
      rw [(List.getElem?_eq_some_iff.1 hc1).2]

/-- The world behind a sort: the row, and nothing else that was there. -/
theorem put_heap {w : World} {g n : Nat} {os : Array Obj} {F cur : Array Value} {et : Nat} (hg : w.heap[g]? = some (.cells cur et (0, 0))) :
    (∀ q, q < w.heap.size → q ≠ g → (grow (putRow id (Sort.ahead w n) g 0 F) os).heap[q]? = w.heap[q]?) ∧
      (grow (putRow id (Sort.ahead w n) g 0 F) os).heap[g]? = some (.cells (putCells id 0 F cur) et (0, 0)) := by
  have hs : (putRow id (Sort.ahead w n) g 0 F).heap.size = w.heap.size := by simp [putRow, mapBlock, Sort.ahead]
  have hlt : g < w.heap.size := by
    rcases Nat.lt_or_ge g w.heap.size with h | h
    · exact h
    · rw [Array.getElem?_eq_none h] at hg; cases hg
  refine ⟨fun q hq hne => ?_, ?_⟩
  · rw [heap_grow_old _ _ (by rw [hs]; exact hq)]
    simp only [putRow, mapBlock, Sort.ahead, Array.getElem?_modify]
    rw [if_neg (fun e => hne e.symm)]
  · rw [heap_grow_old _ _ (by rw [hs]; exact hlt)]
    simp only [putRow, mapBlock, Sort.ahead, Array.getElem?_modify, if_true, hg, Option.map_some, onCells]

/-- The row as it reads behind the sort. -/
theorem row_of_put {B0 : Nat} {L : Lay} {w : World} {A : Sta} {b et cap n : Nat} {l' : List α} {cur : Array Value} {os : Array Obj} (hk : ∀ x, (f x).cells.length = k) (hp : ∀ x, ∀ c ∈ (f x).cells, c.plain = true) (hfl : ∀ x, (f x).flat = true)
    (hv : L.hd b = .slice (some ⟨L.ι b, 0, none⟩) l'.length cap) (hb : B0 ≤ L.ι b) (hh : w.heap[L.ι b]? = some (.cells cur et (0, 0))) (hc : l'.length ≤ cap) (hm : cap ≤ maxLen) (hcs : cur.size = cap * k) (hA : ∀ o, ¬ A (L.ι b) o) :
    BR B0 L (grow (putRowK (encD f) k (Sort.ahead w n) (L.ι b) 0 l'.toArray) os) A b (.row et k (l'.map f) false) := by
  have h2 := (put_heap (n := n) (os := os) (F := flatK (encD f) k l'.toArray) hh).2
  have hsz : (flatK (encD f) k l'.toArray).size = l'.length * k := by simp
  have hle : l'.length * k ≤ cur.size := by rw [hcs]; exact Nat.mul_le_mul_right _ hc
  have hF : (putCells id 0 (flatK (encD f) k l'.toArray) cur).toList.take (l'.length * k) = (flatK (encD f) k l'.toArray).toList := by
    apply List.ext_getElem?
    intro t
    rw [List.getElem?_take]
    split
    · rename_i ht
      have h1 : t < cur.size := by omega
      simp only [putCells, Array.getElem?_toList, Array.getElem?_mapIdx, Array.getElem?_eq_getElem h1, Option.map_some]
      rw [if_pos ⟨Nat.zero_le _, by rw [hsz]; omega⟩, Nat.sub_zero, id, getElem!_pos _ t (by rw [hsz]; exact ht), Array.getElem?_eq_getElem (by rw [hsz]; exact ht)]
    · rename_i ht
      rw [List.getElem?_eq_none (by simp; omega)]
  refine ⟨(flatK (encD f) k l'.toArray).toList, ⟨by simp, .inr ⟨L.ι b, cap, _, by rw [hv, List.length_map], hb, h2, by simpa using hc, hm, by simpa [putCells] using hcs, by rw [List.length_map]; exact hF⟩⟩, fun i e he => ?_, fun i e j c v he hc' hvj => ?_, fun g hg => ?_, fun _ o ho => absurd ho (hA o)⟩
  · rw [List.getElem?_map, Option.map_eq_some_iff] at he
    obtain ⟨x, _, rfl⟩ := he
    exact ⟨hk x, hfl x⟩
  · rw [List.getElem?_map, Option.map_eq_some_iff] at he
    obtain ⟨x, hx, rfl⟩ := he
    have hj : j < k := by rw [← hk x]; exact lt_of_get hc'
    have hi := lt_of_get hx
    have ht : i * k + j < l'.length * k := by
      have : (i + 1) * k ≤ l'.length * k := Nat.mul_le_mul_right _ hi
      rw [Nat.add_mul] at this; omega
    have e1 : (i * k + j) / k = i := by rw [Nat.mul_comm, Nat.mul_add_div (by omega), Nat.div_eq_of_lt hj, Nat.add_zero]
    have e2 : (i * k + j) % k = j := by rw [Nat.mul_comm, Nat.mul_add_mod, Nat.mod_eq_of_lt hj]
    rw [Array.getElem?_toList, Array.getElem?_eq_getElem (by simpa using ht)] at hvj
    cases hvj
    have := get_flatK (encD f) k l'.toArray (i * k + j) (by simpa using ht)
    rw [getElem!_pos _ _ (by simpa using ht), e1, e2, getElem!_pos l'.toArray i (by simpa using hi)] at this
    rw [this]
    simp only [List.getElem_toArray, encD]
    have ex : l'[i] = x := (List.getElem?_eq_some_iff.1 hx).2
    rw [ex, getElem!_pos ((f x).cells.map D.pv) j (by rw [List.length_map, hk]; exact hj), List.getElem_map]
    have ec : (f x).cells[j]'(by rw [hk]; exact hj) = c := (List.getElem?_eq_some_iff.1 hc').2
    rw [ec]
    exact D.rep_pv (hp x c (List.mem_of_getElem? hc'))
  · rw [hv] at hg; simp only [Value.ownBlock, Option.some.injEq] at hg; exact hg.symm
end
/-- A list in the order of a comparison. -/
def sortL {α : Type} (cf : α → α → Int) (l : List α) : List α := l.mergeSort fun x y => !decide (cf y x < 0)
theorem sortL_attach {α : Type} (cf : α → α → Int) (l : List α) : (l.attach.mergeSort fun x y => !ltOf (fun a b : { x // x ∈ l } => cf a.1 b.1) y x).map Subtype.val = sortL cf l := by
  have h := List.map_mergeSort (r := fun x y => !ltOf (fun a b : { x // x ∈ l } => cf a.1 b.1) y x) (s := fun x y => !decide (cf y x < 0)) (f := Subtype.val) (l := l.attach) (fun a _ b _ => rfl)
  rw [h, List.attach_map_subtype_val]
  rfl
theorem sortL_len {α : Type} (cf : α → α → Int) (l : List α) : (sortL cf l).length = l.length := List.length_mergeSort _
theorem sortL_perm {α : Type} (cf : α → α → Int) (l : List α) : (sortL cf l).Perm l := List.mergeSort_perm _ _

/-- A comparison's contract, as the library's sort asks for it. -/
theorem cmpLays_of_ev {P : Program} {α : Type} [Inhabited α] {f : α → D} {k : Nat} {w : World} {A : Sta} {g : FuncId} {caps : List D} {vs : Array Value} {blk et size : Nat} {cur : Array Value} (hp : ∀ x, ∀ c ∈ (f x).cells, c.plain = true) (hag : ∀ x, ∃ cs, f x = .agg cs) (cf : α → α → Int)
    (hcmp : ∀ x y, Ev P g ([f x, f y] ++ caps) (.int .i64 (cf x y))) (hA : ∀ g o, A g o → g < w.heap.size) (hno : ∀ o, ¬ A blk o) (hh : w.heap[blk]? = some (.cells cur et (0, 0))) (hcl : caps.length = vs.size)
    (hcr : ∀ (j : Nat) c v, caps[j]? = some c → vs[j]? = some v → Rep w A c v) : CmpLays P g vs (encD f) k cf blk 0 size w := by
  intro m os dk _ x y
  have hcl' : ∀ g' o, A g' o → (sortWorldK (encD f) k w blk 0 m dk os).cell? ⟨g', o, none⟩ = w.cell? ⟨g', o, none⟩ := by
    intro g' o hg
    refine World.cell?_of_block (w := w) ((put_heap hh).1 g' (hA g' o hg) ?_)
    rintro rfl
    exact hno o hg
  have hsW : w.heap.size ≤ (sortWorldK (encD f) k w blk 0 m dk os).heap.size := by
    simp [sortWorldK, putRowK, putRow, mapBlock, Sort.ahead]
  have repx : ∀ (z : α) W, Rep W A (f z) (.agg (encD f z).toArray) := by
    intro z W
    obtain ⟨cs, hcs⟩ := hag z
    have hpz := hp z
    simp only [encD]
    rw [hcs] at hpz ⊢
    simp only [D.cells] at hpz ⊢
    refine .agg (by simp) (fun c hc => D.plain_one (hpz c hc)) fun j c v hc hv => ?_
    simp only [List.getElem?_toArray, List.getElem?_map, hc, Option.map_some, Option.some.injEq] at hv
    subst hv
    exact D.rep_pv (hpz c (List.mem_of_getElem? hc))
  generalize sortWorldK (encD f) k w blk 0 m dk os = W at hcl' hsW ⊢
  obtain ⟨_, hrun⟩ := hcmp x y
  have rx := repx x W
  have ry := repx y W
  generalize Value.agg (encD f x).toArray = vx at rx ⊢
  generalize Value.agg (encD f y).toArray = vy at ry ⊢
  refine (hrun W A (#[vx, vy] ++ vs) (fun g' o hg => Nat.lt_of_lt_of_le (hA g' o hg) hsW) (by simp [hcl]; omega) fun j c u hc hu => ?_).mono fun e w' he => ?_
  · match j with
    | 0 =>
      rw [Array.getElem?_append_left (by simp)] at hu
      simp only [List.cons_append, List.getElem?_cons_zero, Option.some.injEq] at hc
      simp only [List.getElem?_toArray, List.getElem?_cons_zero, Option.some.injEq] at hu
      subst hc; subst hu; exact rx
    | 1 =>
      rw [Array.getElem?_append_left (by simp)] at hu
      simp only [List.cons_append, List.getElem?_cons_zero, List.getElem?_cons_succ, Option.some.injEq] at hc
      simp only [List.getElem?_toArray, List.getElem?_cons_zero, List.getElem?_cons_succ, Option.some.injEq] at hu
      subst hc; subst hu; exact ry
    | j + 2 =>
      have hc' : caps[j]? = some c := by simpa using hc
      have hu' : vs[j]? = some u := by
        rw [Array.getElem?_append_right (by simp)] at hu
        simpa using hu
      exact (hcr j c u hc' hu').frame (fun _ _ h => h) hcl'
  · obtain ⟨v, A', rfl, hrep, hbel, _⟩ := he
    cases hrep
    exact ⟨rfl, grown_of_below hbel⟩

/-- A call that turns one row, and nothing else that was there. -/
theorem rowPost {B0 et k : Nat} {w w' : World} {A : Sta} {L0 : Lay} {b : Nat} {es es' : List D} (hA : ∀ g o, A g o → g < w.heap.size) (hH : HOk B0 L0 w A [(b, .row et k es false)]) (hbr' : BR B0 L0 w' A b (.row et k es' false))
    (q1 : w'.os = w.os) (q2 : TapeOn w w') (q3 : w'.output = w.output) (q4 : w.heap.size ≤ w'.heap.size) (q5 : ∀ q, q < w.heap.size → (L0.hd b).ownBlock ≠ some q → w'.heap[q]? = w.heap[q]?) (q6 : ∀ q o, A q o → (L0.hd b).ownBlock ≠ some q) :
    ∃ u A' L', Ending.returned (.tuple #[]) = .returned u ∧ RV L' w' A' (.tup []) u ∧ w'.os = w.os ∧ TapeOn w w' ∧ w'.output = w.output ∧ w.heap.size ≤ w'.heap.size ∧
      (∀ q, q < w.heap.size → ¬ claims L0 [(b, .row et k es false)] q → w'.heap[q]? = w.heap[q]?) ∧
      (∀ g o, A g o → A' g o) ∧ (∀ g o, A g o → w'.cell? ⟨g, o, none⟩ = w.cell? ⟨g, o, none⟩) ∧ (∀ g o, A' g o → g < w'.heap.size) ∧
      (∀ g o, A' g o → A g o ∨ w.heap.size ≤ g ∨ claims L0 [(b, .row et k es false)] g) ∧
      HOk B0 L' w' A' [(b, .row et k es' false)] ∧ (∀ g, claims L' [(b, .row et k es' false)] g → w.heap.size ≤ g ∨ claims L0 [(b, .row et k es false)] g) ∧
      (∀ b', lk [(b, Bx.row et k es false)] b' ≠ none → lk [(b, Bx.row et k es' false)] b' ≠ none → L'.eqAt L0 b') ∧
      (∀ b', (AV.tup []).men b' = true → lk [(b, Bx.row et k es' false)] b' ≠ none) := by
  have hlk : ∀ x : Bx, lk [(b, x)] b = some x := fun x => by simp [lk]
  have hne : ∀ k2 x (y : Bx), lk [(b, y)] k2 = some x → k2 = b ∧ x = y := by
    intro k2 x y hx
    simp only [lk] at hx
    split at hx
    · rename_i hk
      cases hx
      exact ⟨(Nat.eq_of_beq_eq_true hk).symm, rfl⟩
    · cases hx
  have hw : ∀ g o, A g o → w'.cell? ⟨g, o, none⟩ = w.cell? ⟨g, o, none⟩ := fun g o hg => World.cell?_of_block (w := w) (q5 g (hA g o hg) (q6 g o hg))
  refine ⟨_, A, L0, rfl, .tup rfl fun j c v hc => by simp at hc, q1, q2, q3, q4, fun q hq hn => q5 q hq fun he => hn ⟨b, _, hlk _, he⟩, fun _ _ h => h, hw, fun g o hg => Nat.lt_of_lt_of_le (hA g o hg) q4, fun _ _ h => .inl h,
    ⟨fun k2 x hx => ?_, fun k2 x g' hx ho => ?_, fun k2 k3 x x' g' hx hx' _ _ => ?_, fun k2 x k3 hx hm => ?_⟩, ?_, fun _ _ _ => .rfl', fun b' hb' => by cases hb'⟩
  · obtain ⟨rfl, rfl⟩ := hne _ _ _ hx; exact hbr'
  · obtain ⟨rfl, rfl⟩ := hne _ _ _ hx
    have := hH.lo k2 _ g' (hlk _) ho
    exact ⟨this.1, by omega⟩
  · rw [(hne _ _ _ hx).1, (hne _ _ _ hx').1]
  · obtain ⟨rfl, rfl⟩ := hne _ _ _ hx; cases hm
  · rintro g' ⟨k2, x, hx, ho⟩
    obtain ⟨rfl, rfl⟩ := hne _ _ _ hx
    exact .inr ⟨k2, _, hlk _, ho⟩

theorem lk_one {b : Nat} {x : Bx} : lk [(b, x)] b = some x := by simp [lk]
theorem two_vals {L : Lay} {w : World} {A : Sta} {b k n : Nat} {g : FuncId} {caps : List D} {vals : Array Value} (hl : [AV.own b k n, AV.d (.fn g caps)].length = vals.size)
    (hv : ∀ (j : Nat) c u, [AV.own b k n, AV.d (.fn g caps)][j]? = some c → vals[j]? = some u → RV L w A c u) :
    ∃ vs, vals = #[L.hd b, .func (.func g) #[] vs] ∧ caps.length = vs.size ∧ ∀ (j : Nat) c v, caps[j]? = some c → vs[j]? = some v → Rep w A c v := by
  obtain ⟨v1, v2, rfl⟩ : ∃ v1 v2, vals = #[v1, v2] := by
    rcases vals with ⟨_ | ⟨v, _ | ⟨u, _ | ⟨u2, r⟩⟩⟩⟩
    · simp at hl
    · simp at hl
    · exact ⟨v, u, rfl⟩
    · simp at hl
  have h1 := hv 0 _ v1 rfl rfl
  have h2 := hv 1 _ v2 rfl rfl
  cases h2 with
  | d h2 =>
  cases h2 with
  | @fn _ _ vs hcl hcr =>
  have hv1 : v1 = L.hd b := by cases h1; rfl
  subst hv1
  exact ⟨vs, rfl, hcl, hcr⟩
theorem enters_of_ev {P : Program} {g : FuncId} {args : List D} {r : D} (h : Ev P g args r) : ∀ args w, (callFunc g args).run P w = .ok (.enter g args) w := by
  obtain ⟨⟨fd, hfd, hnm, hbody⟩, _⟩ := h
  intro args w
  have n1 : ¬ fd.name = "runtime.NumGoroutine" := by simpa using hnm
  have n2 : ¬ fd.body = none := by intro h; rw [h] at hbody; cases hbody
  simp [callFunc, hfd, n1, n2]
theorem flat_of_plain {d : D} (h : ∀ c ∈ d.cells, c.plain = true) (hag : ∃ cs, d = .agg cs) : d.flat = true := by
  obtain ⟨cs, rfl⟩ := hag
  simp only [D.flat, List.all_eq_true]
  exact fun c hc => D.plain_one (h c hc)

set_option maxHeartbeats 1000000 in
/-- The sort of a row with elements. -/
theorem sortSome {P : Program} {ρ : Ren} {α : Type} [Inhabited α] (L : SlLaysF0.n6 P ρ) (f : α → D) (k : Nat) (aE : ∀ w, (isAgg (ρ.t 24)).run P w = .ok true w) (zE : ∀ w, (Go.sizeOf (ρ.t 24)).run P w = .ok k w)
    (hk : ∀ x, (f x).cells.length = k) (hp : ∀ x, ∀ c ∈ (f x).cells, c.plain = true) (hag : ∀ x, ∃ cs, f x = .agg cs) (cf : α → α → Int) (hO : SWO (ltOf cf)) (g : FuncId) (caps : List D) (l : List α) (hne : l ≠ [])
    (hT : ∀ x y, ltOf cf x y = false → ltOf cf y x = false → x = y) (hcmp : ∀ x y, Ev P g ([f x, f y] ++ caps) (.int .i64 (cf x y))) (hlen : l.length < 1000000)
    {B0 : Nat} {w : World} {A : Sta} {L0 : Lay} {b : Nat} {vs : Array Value} (hA : ∀ g o, A g o → g < w.heap.size) (hH : HOk B0 L0 w A [(b, .row (ρ.t 24) k (l.map f) false)]) (hcl : caps.length = vs.size) (hcr : ∀ (j : Nat) c v, caps[j]? = some c → vs[j]? = some v → Rep w A c v) :
    Calls P (ρ.f 6) #[L0.hd b, .func (.func g) #[] vs] w fun e w' => e = .returned (.tuple #[]) ∧ BR B0 L0 w' A b (.row (ρ.t 24) k ((l.mergeSort fun x y => !ltOf cf y x).map f) false) ∧
      w'.os = w.os ∧ TapeOn w w' ∧ w'.output = w.output ∧ w.heap.size ≤ w'.heap.size ∧ (∀ q, q < w.heap.size → (L0.hd b).ownBlock ≠ some q → w'.heap[q]? = w.heap[q]?) ∧ (∀ q o, A q o → (L0.hd b).ownBlock ≠ some q) := by
  have hbr := hH.br b _ lk_one
  obtain ⟨cap, cur, k1, k2, k3, k4, k5, k6, k7, k8, k9⟩ := holds_of_row f k hk hp hbr hne
  have hc := cmpLays_of_ev (k := k) (size := l.toArray.size) hp hag cf hcmp hA k8 k2 hcl hcr
  have hrun := AnyQ.slices_SortFunc_total L k aE zE (encD f) (fun x => by simp [encD, hk]) (fun x v hv => by
    simp only [encD, List.mem_map] at hv
    obtain ⟨c, hc, rfl⟩ := hv
    exact D.pv_one (hp x c hc)) cf hO g vs (L0.ι b) 0 cap l.toArray w (enters_of_ev (hcmp default default)) hc k9 k7 (by simp; omega) hT
  have hob : (L0.hd b).ownBlock = some (L0.ι b) := by rw [k1]; rfl
  rw [← hob] at *
  rw [k1]
  refine hrun.mono fun e w' he => ?_
  obtain ⟨rfl, n, os, rfl⟩ := he
  have hml : (l.mergeSort fun x y => !ltOf cf y x).length = l.length := List.length_mergeSort _
  have hph := put_heap (n := n) (os := os) (F := flatK (encD f) k (l.mergeSort fun x y => !ltOf cf y x).toArray) k2
  refine ⟨rfl, row_of_put f k hk hp (fun x => flat_of_plain (hp x) (hag x)) (by rw [hml]; exact k1) k6 k2 (by rw [hml]; exact k3) k4 k5 k8, rfl, ⟨rfl, Nat.le_add_right _ _⟩, rfl, by simp [sortWorldK, putRowK, putRow, mapBlock, Sort.ahead], fun q hq hn => hph.1 q hq fun e => hn (by rw [e]; rfl), fun q o hq he => ?_⟩
  cases he
  exact k8 o hq

/-- slices.SortFunc of a slice that the call owns. -/
theorem EvX.sortFunc {P : Program} {ρ : Ren} {α : Type} (L : SlLaysF0.n6 P ρ) (f : α → D) (k : Nat) (aE : ∀ w, (isAgg (ρ.t 24)).run P w = .ok true w) (zE : ∀ w, (Go.sizeOf (ρ.t 24)).run P w = .ok k w)
    (hk : ∀ x, (f x).cells.length = k) (hp : ∀ x, ∀ c ∈ (f x).cells, c.plain = true) (hag : ∀ x, ∃ cs, f x = .agg cs) (cf : α → α → Int) (hO : SWO fun x y => decide (cf x y < 0)) (g : FuncId) (caps : List D) (l : List α)
    (hT : ∀ x ∈ l, ∀ y ∈ l, ¬ cf x y < 0 → ¬ cf y x < 0 → x = y) (hcmp : ∀ x ∈ l, ∀ y ∈ l, Ev P g ([f x, f y] ++ caps) (.int .i64 (cf x y))) (hlen : l.length < 1000000) (b : Nat) :
    EvX P (ρ.f 6) [.own b k l.length, .d (.fn g caps)] [(b, .row (ρ.t 24) k (l.map f) false)] (.tup []) [(b, .row (ρ.t 24) k ((sortL cf l).map f) false)] := by
  refine ⟨?_, ?_⟩
  · obtain ⟨nm, hnm, hf⟩ := L.f6
    exact ⟨_, hf, hnm, rfl⟩
  intro B0 w A L0 vals hB0 hA hl hv hmen hH
  obtain ⟨vs, rfl, hcl, hcr⟩ := two_vals hl hv
  by_cases hnil : l = []
  · subst hnil
    have hbr := hH.br b _ lk_one
    obtain ⟨xs, hr, _, _, h5, h6⟩ := hbr
    obtain ⟨p, cap, hpc⟩ : ∃ p cap, L0.hd b = .slice p 0 cap := by
      rcases hr.2 with ⟨h, _⟩ | ⟨g', cap, cur, h, _⟩
      · exact ⟨none, 0, h⟩
      · exact ⟨_, cap, h⟩
    rw [hpc]
    refine (AnyF.slices_SortFunc_none L p cap (.func (.func g) #[] vs) w).mono fun e w' hw => ?_
    obtain ⟨rfl, rfl⟩ := hw
    rw [show sortL cf ([] : List α) = [] by simp [sortL]]
    refine rowPost hA hH (hH.br b _ lk_one) rfl .rfl' rfl (Nat.le_refl _) (fun _ _ _ => rfl) fun q o hq he => ?_
    have e1 := h5 q he
    subst e1
    have := (h6 (ownBlock_ne he) o hq).1
    cases this
  · haveI : Inhabited { x // x ∈ l } := ⟨⟨l.head hnil, List.head_mem hnil⟩⟩
    have em : l.map f = l.attach.map fun x => f x.1 := by
      conv => lhs; rw [← List.attach_map_subtype_val l, List.map_map]
      rfl
    have emap : (l.attach.mergeSort fun x y => !ltOf (fun a b : { x // x ∈ l } => cf a.1 b.1) y x).map (fun x => f x.1) = (sortL cf l).map f := by
      rw [← sortL_attach cf l, List.map_map]; rfl
    have hH2 := hH
    rw [em] at hH2
    refine (sortSome L (fun x : { x // x ∈ l } => f x.1) k aE zE (fun x => hk x.1) (fun x => hp x.1) (fun x => hag x.1) (fun a b => cf a.1 b.1) ⟨fun x => hO.irrefl x.1, fun x y z => hO.trans x.1 y.1 z.1, fun x y z => hO.ntrans x.1 y.1 z.1⟩ g caps l.attach (by simpa using hnil)
      (fun x y h1 h2 => Subtype.ext (hT x.1 x.2 y.1 y.2 (of_decide_eq_false h1) (of_decide_eq_false h2))) (fun x y => hcmp x.1 x.2 y.1 y.2) (by simpa using hlen) hA hH2 hcl hcr).mono fun e w' he => ?_
    obtain ⟨rfl, h1, h2, h3, h4, h5, h6, h7⟩ := he
    rw [emap] at h1
    exact rowPost hA hH h1 h2 h3 h4 h5 h6 h7
/-- slices.SortFunc at no element. -/
theorem Ev.sortNone {P : Program} {ρ : Ren} (L : SlLaysF0.n6 P ρ) (k : Nat) (g : FuncId) (caps : List D) : Ev P (ρ.f 6) [.sl k [], .fn g caps] (.tup []) := by
  refine ⟨?_, ?_⟩
  · obtain ⟨nm, hnm, hf⟩ := L.f6
    exact ⟨_, hf, hnm, rfl⟩
  intro w A vals hA hl hv
  obtain ⟨v1, v2, rfl⟩ : ∃ v1 v2, vals = #[v1, v2] := by
    rcases vals with ⟨_ | ⟨v, _ | ⟨u, _ | ⟨u2, r⟩⟩⟩⟩
    · simp at hl
    · simp at hl
    · exact ⟨v, u, rfl⟩
    · simp at hl
  have h1 := hv 0 _ v1 rfl rfl
  obtain ⟨p, cap, rfl⟩ : ∃ p cap, v1 = .slice p 0 cap := by
    cases h1 with
    | slnil => exact ⟨_, _, rfl⟩
    | sl => exact ⟨_, _, rfl⟩
  refine (AnyF.slices_SortFunc_none L p cap v2 w).mono fun e w' he => ?_
  obtain ⟨rfl, rfl⟩ := he
  exact ⟨_, A, rfl, .tup rfl fun j c v hc => by simp at hc, BelowD.refl _, fun _ _ h => h, hA, fun _ _ h => .inl h⟩
end Go.Vm
end

section
/- slices.Sort of a slice of ints that the call owns. It names no program. -/
namespace Go.Vm
open Go.RowKit (Below)
open Go.Shelf Go.Proofs Go.RowKit Go.Lib Go.Sort
def sortZ (l : List Int) : List Int := l.mergeSort fun x y => decide (x ≤ y)
theorem sortZ_len (l : List Int) : (sortZ l).length = l.length := List.length_mergeSort _
theorem putRow_int (w : World) (g : Nat) (d : Array Int) : putRow (Value.int .i64) w g 0 d = putRowK (encD fun n : Int => D.int .i64 n) 1 w g 0 d := by
  unfold putRowK putRow
  congr 1
  funext c
  apply Array.ext_getElem?
  intro t
  simp only [putCells, Array.getElem?_mapIdx, size_flatK, Nat.mul_one]
  cases c[t]? with
  | none => rfl
  | some v =>
    simp only [Option.map_some]
    split
    · rename_i h
      rw [get_flatK _ _ _ _ (by omega)]
      simp [encD, D.cells, D.pv, Nat.mod_one]
    · rfl
theorem EvX.sortInts {P : Program} {ρ : Ren} (L : Lays.n189 P ρ) (et : Nat) (l : List Int) (hlen : l.length < 1000000) (b : Nat) :
    EvX P (ρ.f 189) [.own b 1 l.length] [(b, .row et 1 (l.map fun n => D.int .i64 n) false)] (.tup []) [(b, .row et 1 ((sortZ l).map fun n => D.int .i64 n) false)] := by
  refine ⟨?_, ?_⟩
  · exact ⟨_, L.f189, rfl, rfl⟩
  intro B0 w A L0 vals hB0 hA hl hv hmen hH
  obtain ⟨v, rfl⟩ : ∃ v, vals = #[v] := by
    rcases vals with ⟨_ | ⟨v, _ | ⟨u, r⟩⟩⟩
    · simp at hl
    · exact ⟨v, rfl⟩
    · simp at hl
  have hv1 : v = L0.hd b := by
    have := hv 0 _ v rfl rfl
    cases this; rfl
  subst hv1
  have hbr := hH.br b _ lk_one
  by_cases hnil : l = []
  · subst hnil
    obtain ⟨xs, hr, _, _, h5, h6⟩ := hbr
    obtain ⟨p, cap, hpc⟩ : ∃ p cap, L0.hd b = .slice p 0 cap := by
      rcases hr.2 with ⟨h, _⟩ | ⟨g', cap, cur, h, _⟩
      · exact ⟨none, 0, h⟩
      · exact ⟨_, cap, h⟩
    rw [hpc]
    refine (Any.slices_Sort_int_none L p cap w).mono fun e w' hw => ?_
    obtain ⟨rfl, rfl⟩ := hw
    rw [show sortZ [] = [] by simp [sortZ]]
    refine rowPost hA hH (hH.br b _ lk_one) rfl .rfl' rfl (Nat.le_refl _) (fun _ _ _ => rfl) fun q o hq he => ?_
    have e1 := h5 q he
    subst e1
    have := (h6 (ownBlock_ne he) o hq).1
    cases this
  · obtain ⟨cap, cur, k1, k2, k3, k4, k5, k6, k7, k8, k9⟩ := holds_of_row (fun n : Int => D.int .i64 n) 1 (fun _ => rfl) (fun _ c hc => by simp only [D.cells, List.mem_singleton] at hc; subst hc; rfl) hbr hnil
    have hH9 : Holds (Value.int .i64) w (L0.ι b) 0 l.toArray := by
      intro j hj
      have := k9 j (by simpa using hj)
      rw [get_flatK _ _ _ _ (by simpa using hj)] at this
      simpa [encD, D.cells, D.pv, Nat.mod_one] using this
    rw [k1]
    refine (Any.slices_Sort_int L (L0.ι b) 0 cap l w hH9 k7 (by omega)).mono fun e w' he => ?_
    obtain ⟨rfl, n, os, rfl⟩ := he
    rw [putRow_int]
    have hml := sortZ_len l
    unfold sortZ at hml
    have hph := put_heap (n := n) (os := os) (F := flatK (encD fun n : Int => D.int .i64 n) 1 (sortZ l).toArray) k2
    have hob : (L0.hd b).ownBlock = some (L0.ι b) := by rw [k1]; rfl
    refine rowPost hA hH (row_of_put (fun n : Int => D.int .i64 n) 1 (fun _ => rfl) (fun _ c hc => by simp only [D.cells, List.mem_singleton] at hc; subst hc; rfl) (fun _ => rfl) (by rw [hml]; exact k1) k6 k2 (by rw [hml]; exact k3) k4 k5 k8) rfl ⟨rfl, Nat.le_add_right _ _⟩ rfl
      (by simp [putRowK, putRow, mapBlock, Sort.ahead]) (fun q hq hn => hph.1 q hq fun e => hn (by rw [e, hob])) fun q o hq he => ?_
    rw [hob] at he; cases he
    exact k8 o hq
theorem Ev.sortIntsNone {P : Program} {ρ : Ren} (L : Lays.n189 P ρ) : Ev P (ρ.f 189) [.sl 1 []] (.tup []) := by
  refine ⟨⟨_, L.f189, rfl, rfl⟩, ?_⟩
  intro w A vals hA hl hv
  obtain ⟨v1, rfl⟩ : ∃ v1, vals = #[v1] := by
    rcases vals with ⟨_ | ⟨v, _ | ⟨u, r⟩⟩⟩
    · simp at hl
    · exact ⟨v, rfl⟩
    · simp at hl
  have h1 := hv 0 _ v1 rfl rfl
  obtain ⟨p, cap, rfl⟩ : ∃ p cap, v1 = .slice p 0 cap := by
    cases h1 with
    | slnil => exact ⟨_, _, rfl⟩
    | sl => exact ⟨_, _, rfl⟩
  refine (Any.slices_Sort_int_none L p cap w).mono fun e w' he => ?_
  obtain ⟨rfl, rfl⟩ := he
  exact ⟨_, A, rfl, .tup rfl fun j c v hc => by simp at hc, BelowD.refl _, fun _ _ h => h, hA, fun _ _ h => .inl h⟩
end Go.Vm
end
