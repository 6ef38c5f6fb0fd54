/- Texts VmRn VmNm VmCp VmMu VmYv VmZ VmZi, joined. -/
import Derived.Test.YtahnaobdihhppaaMgH
section
/- Contracts of calls that are handed boxes, under other names of the boxes. -/
namespace Go.Vm
open Go.RowKit (Below)
def rnm (m : List (Nat × Nat)) (b : Nat) : Nat := match lk m b with
  | some c => c
  | none => b
def Cap.rn (m : List (Nat × Nat)) : Cap → Cap
  | .box b => .box (rnm m b)
  | .dat x => .dat x
def rnCs (m : List (Nat × Nat)) : List Cap → List Cap
  | [] => []
  | c :: r => c.rn m :: rnCs m r
def AV.rn1 (m : List (Nat × Nat)) : AV → AV
  | .ptr b o => .ptr (rnm m b) o
  | .eptr b s i o => .eptr (rnm m b) s i o
  | .own b s n => .own (rnm m b) s n
  | .fnv f cs => .fnv f (rnCs m cs)
  | .sptr b s i j => .sptr (rnm m b) s i j
  | .sub b v i => .sub (rnm m b) v i
  | .mptr b v i j => .mptr (rnm m b) v i j
  | .mp b => .mp (rnm m b)
  | .view b s i j => .view (rnm m b) s i j
  | v => v
def rnL (m : List (Nat × Nat)) : List AV → List AV
  | [] => []
  | c :: r => c.rn1 m :: rnL m r
def AV.rn2 (m : List (Nat × Nat)) : AV → AV
  | .agg cs => .agg (rnL m cs)
  | v => v.rn1 m
def rnT (m : List (Nat × Nat)) : List AV → List AV
  | [] => []
  | c :: r => c.rn2 m :: rnT m r
def AV.rn (m : List (Nat × Nat)) : AV → AV
  | .tup cs => .tup (rnT m cs)
  | v => v.rn2 m
def rnA (m : List (Nat × Nat)) : List AV → List AV
  | [] => []
  | c :: r => c.rn m :: rnA m r
def Bx.rn (m : List (Nat × Nat)) : Bx → Bx
  | .var cs fz => .var (rnL m cs) fz
  | .iter k n seen => .iter (k.map (rnm m)) n seen
  | x => x
def rnB (m : List (Nat × Nat)) : List (Nat × Bx) → List (Nat × Bx)
  | [] => []
  | (b, x) :: r => (rnm m b, x.rn m) :: rnB m r
/-- The names of two lists of boxes: each once in each; no two get one name. -/
def injN (m : List (Nat × Nat)) : List Nat → List (Nat × Nat) → Bool
  | [], _ => true
  | b :: r, seen => match chk b (rnm m b) seen with
    | true => injN m r ((b, rnm m b) :: seen)
    | false => false
where
  chk (b c : Nat) : List (Nat × Nat) → Bool
    | [] => true
    | (b', c') :: r => match Nat.beq c c', Nat.beq b b' with
      | true, false => false
      | _, _ => chk b c r
def namesB : List (Nat × Bx) → List Nat
  | [] => []
  | (b, _) :: r => b :: namesB r
/-- Values are shaped as values are: structs hold no structs, tuples no tuples. -/
def wfA : List AV → Bool
  | [] => true
  | c :: r => match c.wf with
    | true => wfA r
    | false => false
def wfB : List (Nat × Bx) → Bool
  | [] => true
  | (_, x) :: r => match x with
    | .var cs _ => match leafL cs with
      | true => wfB r
      | false => false
    | _ => wfB r

theorem rnL_map (m : List (Nat × Nat)) : ∀ l, rnL m l = l.map (AV.rn1 m)
  | [] => rfl
  | c :: r => by simp [rnL, rnL_map m r]
theorem rnT_map (m : List (Nat × Nat)) : ∀ l, rnT m l = l.map (AV.rn2 m)
  | [] => rfl
  | c :: r => by simp [rnT, rnT_map m r]
theorem rnA_map (m : List (Nat × Nat)) : ∀ l, rnA m l = l.map (AV.rn m)
  | [] => rfl
  | c :: r => by simp [rnA, rnA_map m r]
theorem rnCs_map (m : List (Nat × Nat)) : ∀ l, rnCs m l = l.map (Cap.rn m)
  | [] => rfl
  | c :: r => by simp [rnCs, rnCs_map m r]
theorem injN_spec {m : List (Nat × Nat)} : ∀ {l : List Nat} {seen : List (Nat × Nat)}, injN m l seen = true →
    (∀ b ∈ l, ∀ q ∈ seen, rnm m b = q.2 → b = q.1) ∧ (∀ b ∈ l, ∀ b' ∈ l, rnm m b = rnm m b' → b = b')
  | [], seen, _ => ⟨fun b h => (by cases h), fun b h => (by cases h)⟩
  | b :: r, seen, h => by
    simp only [injN] at h
    split at h
    · rename_i hc
      obtain ⟨h1, h2⟩ := injN_spec h
      have key : ∀ {s : List (Nat × Nat)}, injN.chk b (rnm m b) s = true → ∀ q ∈ s, rnm m b = q.2 → b = q.1 := by
        intro s
        induction s with
        | nil => intro _ q hq; cases hq
        | cons q s ih =>
          obtain ⟨b', c'⟩ := q
          intro hs q hq he
          simp only [injN.chk] at hs
          split at hs
          · cases hs
          · rename_i hn
            cases hq with
            | head =>
              by_cases e : b = b'
              · exact e
              · exact absurd (beq_ne_false e) (fun h' => hn (by rw [he]; exact Nat.beq_refl _) h')
            | tail _ hq => exact ih hs q hq he
      refine ⟨fun c hc' q hq he => ?_, fun c hc1 c' hc2 he => ?_⟩
      · cases hc' with
        | head => exact key hc q hq he
        | tail _ hc' => exact h1 c hc' q (List.mem_cons_of_mem _ hq) he
      · cases hc1 with
        | head =>
          cases hc2 with
          | head => rfl
          | tail _ hc2 => exact (h1 c' hc2 (b, rnm m b) List.mem_cons_self he.symm).symm
        | tail _ hc1 =>
          cases hc2 with
          | head => exact h1 c hc1 (b, rnm m b) List.mem_cons_self he
          | tail _ hc2 => exact h2 c hc1 c' hc2 he
    · cases h
theorem mem_names {b : Nat} : ∀ {l : List (Nat × Bx)}, b ∈ namesB l ↔ lk l b ≠ none
  | [] => by simp [namesB, lk]
  | (k, x) :: r => by
    simp only [namesB, List.mem_cons, lk_cons, mem_names (l := r)]
    by_cases e : b = k
    · simp [e]
    · simp [e]

section
variable {m : List (Nat × Nat)}
theorem lk_rnB : ∀ {hs : List (Nat × Bx)} {b : Nat}, (∀ c ∈ namesB hs, rnm m b = rnm m c → b = c) → lk (rnB m hs) (rnm m b) = (lk hs b).map (Bx.rn m)
  | [], b, _ => rfl
  | (k, x) :: r, b, h => by
    simp only [rnB, lk_cons]
    by_cases e : b = k
    · subst e; simp
    · have : rnm m b ≠ rnm m k := fun h' => e (h k (by simp [namesB]) h')
      rw [if_neg this, if_neg e]
      exact lk_rnB fun c hc => h c (by simp [namesB, hc])
theorem lk_rnB_some : ∀ {hs : List (Nat × Bx)} {c : Nat} {y : Bx}, lk (rnB m hs) c = some y → ∃ b, b ∈ namesB hs ∧ c = rnm m b
  | [], c, y, h => by cases h
  | (k, x) :: r, c, y, h => by
    simp only [rnB, lk_cons] at h
    by_cases e : c = rnm m k
    · exact ⟨k, by simp [namesB], e⟩
    · rw [if_neg e] at h
      obtain ⟨b, h1, h2⟩ := lk_rnB_some h
      exact ⟨b, by simp [namesB, h1], h2⟩

/-- The layout seen through the names. -/
def Lay.thru (L : Lay) (m : List (Nat × Nat)) : Lay := ⟨fun b => L.ι (rnm m b), fun b => L.hd (rnm m b), fun b => L.sub (rnm m b), fun b => L.top (rnm m b)⟩
variable {L L' : Lay} {w : World} {A : Sta}
theorem rn1_rv {x : AV} {v : Value} (hl : x.leaf = true) : RV L w A (x.rn1 m) v ↔ RV (L.thru m) w A x v := by
  constructor
  · intro h
    cases x with
    | d x => cases h with | d h => exact .d h
    | agg => cases hl
    | tup => cases hl
    | ptr b o => cases h; exact RV.ptr (L := L.thru m) b o
    | eptr b s i o => cases h; exact RV.eptr (L := L.thru m) b s i o
    | own b s n => cases h with | own _ _ _ h1 => exact RV.own (L := L.thru m) b s n h1
    | fnv f cs =>
      cases h with
      | @fnv _ _ vs h1 h2 =>
        refine .fnv (by rw [← h1, rnCs_map]; simp) fun j c v hc hv => ?_
        have := h2 j (c.rn m) v (by rw [rnCs_map]; simp [hc]) hv
        cases c with
        | box b => exact this
        | dat x => exact this
    | sptr b s i j => cases h; exact RV.sptr (L := L.thru m) b s i j
    | sub b v i => cases h with | sub _ _ _ h1 h2 => exact RV.sub (L := L.thru m) b v i h1 h2
    | mptr b v i j => cases h with | mptr _ _ _ _ g h1 h2 => exact RV.mptr (L := L.thru m) b v i j g h1 h2
    | mp b => cases h; exact RV.mp (L := L.thru m) b
    | view b s i j => cases h with | view _ _ _ _ g n C h1 h2 => exact RV.view (L := L.thru m) b s i j g n C h1 h2
    | nil => cases h; exact .nil _
    | undef => cases h; exact .undef
    | junk => exact .junk _
  · intro h
    cases x with
    | d x => cases h with | d h => exact .d h
    | agg => cases hl
    | tup => cases hl
    | ptr b o => cases h; exact RV.ptr (L := L) (rnm m b) o
    | eptr b s i o => cases h; exact RV.eptr (L := L) (rnm m b) s i o
    | own b s n => cases h with | own _ _ _ h1 => exact RV.own (L := L) (rnm m b) s n h1
    | fnv f cs =>
      cases h with
      | @fnv _ _ vs h1 h2 =>
        refine .fnv (by rw [← h1, rnCs_map]; simp) fun j c v hc hv => ?_
        rw [rnCs_map] at hc
        simp only [List.getElem?_map, Option.map_eq_some_iff] at hc
        obtain ⟨c, hc, rfl⟩ := hc
        have := h2 j c v hc hv
        cases c with
        | box b => exact this
        | dat x => exact this
    | sptr b s i j => cases h; exact RV.sptr (L := L) (rnm m b) s i j
    | sub b v i => cases h with | sub _ _ _ h1 h2 => exact RV.sub (L := L) (rnm m b) v i h1 h2
    | mptr b v i j => cases h with | mptr _ _ _ _ g h1 h2 => exact RV.mptr (L := L) (rnm m b) v i j g h1 h2
    | mp b => cases h; exact RV.mp (L := L) (rnm m b)
    | view b s i j => cases h with | view _ _ _ _ g n C h1 h2 => exact RV.view (L := L) (rnm m b) s i j g n C h1 h2
    | nil => cases h; exact .nil _
    | undef => cases h; exact .undef
    | junk => exact .junk _
theorem leafL_get : ∀ {l : List AV}, leafL l = true → ∀ c ∈ l, c.leaf = true
  | [], _, c, h => by cases h
  | d :: l, h, c, hc => by
    simp only [leafL] at h
    split at h
    · rename_i h1
      cases hc with
      | head => exact h1
      | tail _ hc => exact leafL_get h c hc
    · cases h
theorem wfT_get : ∀ {l : List AV}, wfT l = true → ∀ c ∈ l, c.wf2 = true
  | [], _, c, h => by cases h
  | d :: l, h, c, hc => by
    simp only [wfT] at h
    split at h
    · rename_i h1
      cases hc with
      | head => exact h1
      | tail _ hc => exact wfT_get h c hc
    · cases h
theorem rn1_one {c : AV} : (c.rn1 m).one = c.one := by cases c <;> rfl
theorem rn2_rv {x : AV} {v : Value} (hw : x.wf2 = true) : RV L w A (x.rn2 m) v ↔ RV (L.thru m) w A x v := by
  cases x with
  | agg cs =>
    have hl := leafL_get hw
    constructor
    · intro h
      simp only [AV.rn2] at h
      cases h with
      | @agg _ vs h1 h2 h3 =>
        rw [rnL_map] at h1 h2 h3
        refine .agg (by simpa using h1) (fun c hc => ?_) fun j c v hc hv => ?_
        · rw [← rn1_one (m := m)]; exact h2 _ (List.mem_map_of_mem hc)
        · exact (rn1_rv (hl c (List.mem_of_getElem? hc))).1 (h3 j (c.rn1 m) v (by simp [hc]) hv)
    · intro h
      simp only [AV.rn2]
      cases h with
      | @agg _ vs h1 h2 h3 =>
        rw [rnL_map]
        refine .agg (by simpa using h1) (fun c hc => ?_) fun j c v hc hv => ?_
        · obtain ⟨c', hc', rfl⟩ := List.mem_map.1 hc
          rw [rn1_one]; exact h2 c' hc'
        · simp only [List.getElem?_map, Option.map_eq_some_iff] at hc
          obtain ⟨c, hc, rfl⟩ := hc
          exact (rn1_rv (hl c (List.mem_of_getElem? hc))).2 (h3 j c v hc hv)
  | tup => cases hw
  | d x => exact rn1_rv (x := .d x) rfl
  | ptr b o => exact rn1_rv (x := .ptr b o) rfl
  | eptr b s i o => exact rn1_rv (x := .eptr b s i o) rfl
  | own b s n => exact rn1_rv (x := .own b s n) rfl
  | fnv f cs => exact rn1_rv (x := .fnv f cs) rfl
  | sptr b s i j => exact rn1_rv (x := .sptr b s i j) rfl
  | sub b v i => exact rn1_rv (x := .sub b v i) rfl
  | mptr b v i j => exact rn1_rv (x := .mptr b v i j) rfl
  | mp b => exact rn1_rv (x := .mp b) rfl
  | view b s i j => exact rn1_rv (x := .view b s i j) rfl
  | nil s => exact rn1_rv (x := .nil s) rfl
  | undef => exact rn1_rv (x := .undef) rfl
  | junk => exact rn1_rv (x := .junk) rfl
theorem rn_rv {x : AV} {v : Value} (hw : x.wf = true) : RV L w A (x.rn m) v ↔ RV (L.thru m) w A x v := by
  cases x with
  | tup cs =>
    have hl := wfT_get hw
    constructor
    · intro h
      simp only [AV.rn] at h
      cases h with
      | @tup _ vs h1 h3 =>
        rw [rnT_map] at h1 h3
        exact .tup (by simpa using h1) fun j c v hc hv => (rn2_rv (hl c (List.mem_of_getElem? hc))).1 (h3 j (c.rn2 m) v (by simp [hc]) hv)
    · intro h
      simp only [AV.rn]
      cases h with
      | @tup _ vs h1 h3 =>
        rw [rnT_map]
        refine .tup (by simpa using h1) fun j c v hc hv => ?_
        simp only [List.getElem?_map, Option.map_eq_some_iff] at hc
        obtain ⟨c, hc, rfl⟩ := hc
        exact (rn2_rv (hl c (List.mem_of_getElem? hc))).2 (h3 j c v hc hv)
  | agg cs => exact rn2_rv (x := .agg cs) hw
  | d x => exact rn2_rv (x := .d x) rfl
  | ptr b o => exact rn2_rv (x := .ptr b o) rfl
  | eptr b s i o => exact rn2_rv (x := .eptr b s i o) rfl
  | own b s n => exact rn2_rv (x := .own b s n) rfl
  | fnv f cs => exact rn2_rv (x := .fnv f cs) rfl
  | sptr b s i j => exact rn2_rv (x := .sptr b s i j) rfl
  | sub b v i => exact rn2_rv (x := .sub b v i) rfl
  | mptr b v i j => exact rn2_rv (x := .mptr b v i j) rfl
  | mp b => exact rn2_rv (x := .mp b) rfl
  | view b s i j => exact rn2_rv (x := .view b s i j) rfl
  | nil s => exact rn2_rv (x := .nil s) rfl
  | undef => exact rn2_rv (x := .undef) rfl
  | junk => exact rn2_rv (x := .junk) rfl

theorem own_rn {b : Nat} {x : Bx} {g : Nat} : own L (rnm m b) (x.rn m) g ↔ own (L.thru m) b x g := by cases x <;> exact Iff.rfl
theorem br_rn {B0 b : Nat} {x : Bx} (hw : ∀ cs fz, x = .var cs fz → leafL cs = true) : BR B0 L w A (rnm m b) (x.rn m) ↔ BR B0 (L.thru m) w A b x := by
  cases x with
  | row => exact Iff.rfl
  | arr => exact Iff.rfl
  | mat => exact Iff.rfl
  | map => exact Iff.rfl
  | gone => exact Iff.rfl
  | iter k n seen =>
    constructor
    · rintro ⟨⟨g, h1, h2⟩, h3⟩
      exact ⟨⟨g, h1, fun b' hb' => by subst hb'; exact h2 _ rfl⟩, h3⟩
    · rintro ⟨⟨g, h1, h2⟩, h3⟩
      refine ⟨⟨g, h1, fun b' hb' => ?_⟩, h3⟩
      cases k with
      | none => cases hb'
      | some c => cases hb'; exact h2 c rfl
  | var cs fz =>
    have hl := leafL_get (hw cs fz rfl)
    constructor
    · rintro ⟨C, t, h1, h2, h3, h4⟩
      rw [rnL_map] at h2 h3
      exact ⟨C, t, h1, by simpa using h2, fun j c v hc hv => (rn1_rv (hl c (List.mem_of_getElem? hc))).1 (h3 j (c.rn1 m) v (by simp [hc]) hv), h4⟩
    · rintro ⟨C, t, h1, h2, h3, h4⟩
      refine ⟨C, t, h1, by rw [rnL_map]; simpa using h2, fun j c v hc hv => ?_, h4⟩
      rw [rnL_map] at hc
      simp only [List.getElem?_map, Option.map_eq_some_iff] at hc
      obtain ⟨c, hc, rfl⟩ := hc
      exact (rn1_rv (hl c (List.mem_of_getElem? hc))).2 (h3 j c v hc hv)
theorem wfB_get : ∀ {l : List (Nat × Bx)}, wfB l = true → ∀ b x, lk l b = some x → ∀ cs fz, x = .var cs fz → leafL cs = true
  | [], _, b, x, h => by cases h
  | (k, y) :: r, hl, b, x, h => by
    simp only [wfB] at hl
    rw [lk_cons] at h
    by_cases e : b = k
    · rw [if_pos e] at h
      cases h
      rintro cs fz rfl
      simp only at hl
      split at hl
      · assumption
      · cases hl
    · rw [if_neg e] at h
      refine wfB_get ?_ b x h
      split at hl
      · split at hl
        · exact hl
        · cases hl
      · exact hl
theorem wfA_get : ∀ {l : List AV}, wfA l = true → ∀ (j : Nat) c, l[j]? = some c → c.wf = true
  | [], _, j, c, h => by simp at h
  | d :: l, h, j, c, hc => by
    simp only [wfA] at h
    split at h
    · rename_i h1
      cases j with
      | zero => simp only [List.getElem?_cons_zero, Option.some.injEq] at hc; subst hc; exact h1
      | succ j => exact wfA_get h j c (by simpa using hc)
    · cases h

theorem menT_iff {b : Nat} : ∀ {cs : List AV}, AV.menT b cs = true ↔ ∃ c ∈ cs, c.men2 b = true
  | [] => by simp [AV.menT]
  | c :: cs => by
    simp only [AV.menT]
    cases hc : c.men2 b with
    | true => simp [hc]
    | false => simp [hc, menT_iff (cs := cs)]
theorem capMen_rn' {d : Nat} : ∀ {cs : List Cap}, capMen d (rnCs m cs) = true → ∃ b, capMen b cs = true ∧ d = rnm m b
  | [], h => by cases h
  | c :: r, h => by
    cases c with
    | box b' =>
      simp only [capMen, rnCs, Cap.rn] at h
      cases e : Nat.beq d (rnm m b') with
      | true => exact ⟨b', by simp [capMen, Nat.beq_refl], Nat.eq_of_beq_eq_true e⟩
      | false =>
        rw [e] at h
        obtain ⟨b, h1, h2⟩ := capMen_rn' h
        refine ⟨b, ?_, h2⟩
        simp only [capMen]
        split
        · rfl
        · exact h1
    | dat x =>
      simp only [capMen, rnCs, Cap.rn] at h
      obtain ⟨b, h1, h2⟩ := capMen_rn' h
      exact ⟨b, by simp only [capMen]; exact h1, h2⟩
theorem men1_rn' {d : Nat} {c : AV} (hl : c.leaf = true) (h : (c.rn1 m).men1 d = true) : ∃ b, c.men1 b = true ∧ d = rnm m b := by
  cases c <;> simp only [AV.rn1, AV.men1] at h <;> first
    | (cases h; done)
    | (cases hl; done)
    | exact ⟨_, Nat.beq_refl _, Nat.eq_of_beq_eq_true h⟩
    | exact capMen_rn' h
theorem menL_rn' {d : Nat} {cs : List AV} (hl : leafL cs = true) (h : AV.menL d (rnL m cs) = true) : ∃ b, AV.menL b cs = true ∧ d = rnm m b := by
  rw [rnL_map] at h
  obtain ⟨c, hc, hb⟩ := menL_iff.1 h
  obtain ⟨c', hc', rfl⟩ := List.mem_map.1 hc
  obtain ⟨b, h1, h2⟩ := men1_rn' (leafL_get hl c' hc') hb
  exact ⟨b, menL_of_mem hc' h1, h2⟩
theorem men2_rn' {d : Nat} {c : AV} (hw : c.wf2 = true) (h : (c.rn2 m).men2 d = true) : ∃ b, c.men2 b = true ∧ d = rnm m b := by
  cases c with
  | agg cs => exact menL_rn' hw h
  | tup => cases hw
  | d x => exact men1_rn' (c := .d x) rfl h
  | ptr b o => exact men1_rn' (c := .ptr b o) rfl h
  | eptr b s i o => exact men1_rn' (c := .eptr b s i o) rfl h
  | own b s n => exact men1_rn' (c := .own b s n) rfl h
  | fnv f cs => exact men1_rn' (c := .fnv f cs) rfl h
  | sptr b s i j => exact men1_rn' (c := .sptr b s i j) rfl h
  | sub b v i => exact men1_rn' (c := .sub b v i) rfl h
  | mptr b v i j => exact men1_rn' (c := .mptr b v i j) rfl h
  | mp b => exact men1_rn' (c := .mp b) rfl h
  | view b s i j => exact men1_rn' (c := .view b s i j) rfl h
  | nil s => exact men1_rn' (c := .nil s) rfl h
  | undef => exact men1_rn' (c := .undef) rfl h
  | junk => exact men1_rn' (c := .junk) rfl h
theorem men_rn' {d : Nat} {c : AV} (hw : c.wf = true) (h : (c.rn m).men d = true) : ∃ b, c.men b = true ∧ d = rnm m b := by
  cases c with
  | tup cs =>
    have h' : AV.menT d (rnT m cs) = true := h
    rw [rnT_map] at h'
    obtain ⟨c, hc, hb⟩ := menT_iff.1 h'
    obtain ⟨c', hc', rfl⟩ := List.mem_map.1 hc
    obtain ⟨b, h1, h2⟩ := men2_rn' (wfT_get hw c' hc') hb
    exact ⟨b, menT_of_mem hc' h1, h2⟩
  | agg cs => exact men2_rn' (c := .agg cs) hw h
  | d x => exact men2_rn' (c := .d x) rfl h
  | ptr b o => exact men2_rn' (c := .ptr b o) rfl h
  | eptr b s i o => exact men2_rn' (c := .eptr b s i o) rfl h
  | own b s n => exact men2_rn' (c := .own b s n) rfl h
  | fnv f cs => exact men2_rn' (c := .fnv f cs) rfl h
  | sptr b s i j => exact men2_rn' (c := .sptr b s i j) rfl h
  | sub b v i => exact men2_rn' (c := .sub b v i) rfl h
  | mptr b v i j => exact men2_rn' (c := .mptr b v i j) rfl h
  | mp b => exact men2_rn' (c := .mp b) rfl h
  | view b s i j => exact men2_rn' (c := .view b s i j) rfl h
  | nil s => exact men2_rn' (c := .nil s) rfl h
  | undef => exact men2_rn' (c := .undef) rfl h
  | junk => exact men2_rn' (c := .junk) rfl h
theorem bx_men_rn' {d : Nat} {x : Bx} (hw : ∀ cs fz, x = .var cs fz → leafL cs = true) (h : (x.rn m).men d = true) : ∃ b, x.men b = true ∧ d = rnm m b := by
  cases x with
  | var cs fz => exact menL_rn' (hw cs fz rfl) h
  | iter k n seen =>
    cases k with
    | none => cases h
    | some c => exact ⟨c, Nat.beq_refl c, Nat.eq_of_beq_eq_true h⟩
  | _ => cases h

/-- A layout with some names' places given. -/
noncomputable def Lay.back (L L0 : Lay) (m : List (Nat × Nat)) (us : List Nat) : Lay :=
  let q : Nat → Option Nat := fun c => us.find? fun b => Nat.beq (rnm m b) c
  ⟨fun c => match q c with | some b => L0.ι b | none => L.ι c, fun c => match q c with | some b => L0.hd b | none => L.hd c,
    fun c => match q c with | some b => L0.sub b | none => L.sub c, fun c => match q c with | some b => L0.top b | none => L.top c⟩
theorem find_rn {us : List Nat} {b : Nat} (hb : b ∈ us) (hi : ∀ b ∈ us, ∀ b' ∈ us, rnm m b = rnm m b' → b = b') : us.find? (fun b' => Nat.beq (rnm m b') (rnm m b)) = some b := by
  induction us with
  | nil => cases hb
  | cons c us ih =>
    rw [List.find?_cons]
    cases e : Nat.beq (rnm m c) (rnm m b) with
    | true =>
      have := hi c List.mem_cons_self b hb (Nat.eq_of_beq_eq_true e)
      rw [this]
    | false =>
      cases hb with
      | head => rw [Nat.beq_refl] at e; cases e
      | tail _ hb => exact ih hb fun x hx y hy => hi x (List.mem_cons_of_mem _ hx) y (List.mem_cons_of_mem _ hy)
theorem back_eq {L L0 : Lay} {us : List Nat} (hi : ∀ b ∈ us, ∀ b' ∈ us, rnm m b = rnm m b' → b = b') {b : Nat} (hb : b ∈ us) : ((L.back L0 m us).thru m).eqAt L0 b ∧ ((L.back L0 m us).thru m).top b = L0.top b := by
  have e := find_rn hb hi
  have h1 : ((L.back L0 m us).thru m).ι b = L0.ι b := by simp only [Lay.thru, Lay.back, e]
  have h2 : ((L.back L0 m us).thru m).hd b = L0.hd b := by simp only [Lay.thru, Lay.back, e]
  have h3 : ((L.back L0 m us).thru m).sub b = L0.sub b := by simp only [Lay.thru, Lay.back, e]
  have h4 : ((L.back L0 m us).thru m).top b = L0.top b := by simp only [Lay.thru, Lay.back, e]
  exact ⟨⟨h1, h2, Nat.le_of_eq h4.symm, fun v _ i => by rw [h3]⟩, h4⟩
end
/-- A contract under other names. -/
theorem EvX.rn {P : Program} {f : FuncId} {xs : List AV} {hs us : List (Nat × Bx)} {v : AV} (m : List (Nat × Nat)) (h : EvX P f xs hs v us)
    (hok : (injN m (namesB hs ++ namesB us) [] && wfA xs && wfA [v] && wfB hs && wfB us && okXs hs xs && okCl hs hs) = true) : EvX P f (rnA m xs) (rnB m hs) (v.rn m) (rnB m us) := by
  simp only [Bool.and_eq_true] at hok
  obtain ⟨⟨⟨⟨⟨⟨k1, k2⟩, k3⟩, k4⟩, k5⟩, k6⟩, k7⟩ := hok
  have hinj := (injN_spec k1).2
  have hv : v.wf = true := wfA_get k3 0 v rfl
  have nH : ∀ b, b ∈ namesB hs → b ∈ namesB hs ++ namesB us := fun b hb => List.mem_append_left _ hb
  have nU : ∀ b, b ∈ namesB us → b ∈ namesB hs ++ namesB us := fun b hb => List.mem_append_right _ hb
  have gH : ∀ b, b ∈ namesB hs ++ namesB us → lk (rnB m hs) (rnm m b) = (lk hs b).map (Bx.rn m) := fun b hb => lk_rnB fun c hc => hinj b hb c (nH c hc)
  have gU : ∀ b, b ∈ namesB hs ++ namesB us → lk (rnB m us) (rnm m b) = (lk us b).map (Bx.rn m) := fun b hb => lk_rnB fun c hc => hinj b hb c (nU c hc)
  have inH : ∀ c y, lk (rnB m hs) c = some y → ∃ b x, c = rnm m b ∧ b ∈ namesB hs ∧ lk hs b = some x ∧ y = x.rn m := by
    intro c y hy
    obtain ⟨b, h1, rfl⟩ := lk_rnB_some hy
    rw [gH b (nH b h1), Option.map_eq_some_iff] at hy
    obtain ⟨x, hx, rfl⟩ := hy
    exact ⟨b, x, rfl, h1, hx, rfl⟩
  have inU : ∀ c y, lk (rnB m us) c = some y → ∃ b x, c = rnm m b ∧ b ∈ namesB us ∧ lk us b = some x ∧ y = x.rn m := by
    intro c y hy
    obtain ⟨b, h1, rfl⟩ := lk_rnB_some hy
    rw [gU b (nU b h1), Option.map_eq_some_iff] at hy
    obtain ⟨x, hx, rfl⟩ := hy
    exact ⟨b, x, rfl, h1, hx, rfl⟩
  have memH : ∀ b x, lk hs b = some x → b ∈ namesB hs := fun b x hx => mem_names.2 (by rw [hx]; simp)
  have memU : ∀ b x, lk us b = some x → b ∈ namesB us := fun b x hx => mem_names.2 (by rw [hx]; simp)
  refine ⟨h.fn, fun B0 w A L vals hB0 hA hsz hreps hmen hH => ?_⟩
  have cl : ∀ g, claims (L.thru m) hs g ↔ claims L (rnB m hs) g := by
    intro g
    constructor
    · rintro ⟨b, x, h1, h2⟩
      exact ⟨rnm m b, x.rn m, by rw [gH b (nH b (memH b x h1)), h1]; rfl, own_rn.2 h2⟩
    · rintro ⟨c, y, h1, h2⟩
      obtain ⟨b, x, rfl, hb, hx, rfl⟩ := inH c y h1
      exact ⟨b, x, hx, own_rn.1 h2⟩
  have hH0 : HOk B0 (L.thru m) w A hs := by
    refine ⟨fun b x hx => ?_, fun b x g hx hg => ?_, fun b b' x x' g hx hx' hg hg' => ?_, okCl_get k7⟩
    · exact (br_rn (wfB_get k4 b x hx)).1 (hH.br (rnm m b) (x.rn m) (by rw [gH b (nH b (memH b x hx)), hx]; rfl))
    · exact hH.lo (rnm m b) (x.rn m) g (by rw [gH b (nH b (memH b x hx)), hx]; rfl) (own_rn.2 hg)
    · exact hinj b (nH b (memH b x hx)) b' (nH b' (memH b' x' hx')) (hH.inj _ _ (x.rn m) (x'.rn m) g (by rw [gH b (nH b (memH b x hx)), hx]; rfl) (by rw [gH b' (nH b' (memH b' x' hx')), hx']; rfl) (own_rn.2 hg) (own_rn.2 hg'))
  refine (h.run B0 w A (L.thru m) vals hB0 hA (by rw [← hsz, rnA_map]; simp) (fun j c u hc hu => (rn_rv (wfA_get k2 j c hc)).1 (hreps j (c.rn m) u (by rw [rnA_map]; simp [hc]) hu)) (okXs_get k6) hH0).mono fun e w' hpost => ?_
  obtain ⟨u, A', L0, rfl, p1, p2, p3, p4, p5, p6, p7, p8, p9, q1, q2, q3, q4, q5⟩ := hpost
  have hiU : ∀ b ∈ namesB us, ∀ b' ∈ namesB us, rnm m b = rnm m b' → b = b' := fun b hb b' hb' => hinj b (nU b hb) b' (nU b' hb')
  have bk : ∀ b, b ∈ namesB us → ((L.back L0 m (namesB us)).thru m).eqAt L0 b ∧ ((L.back L0 m (namesB us)).thru m).top b = L0.top b := fun b hb => back_eq hiU hb
  have brU : ∀ b x, lk us b = some x → BR B0 ((L.back L0 m (namesB us)).thru m) w' A' b x ∧ ∀ g, own ((L.back L0 m (namesB us)).thru m) b x g ↔ own L0 b x g := by
    intro b x hx
    obtain ⟨e1, e2⟩ := bk b (memU b x hx)
    exact ⟨(q2.br b x hx).keep (fun _ _ h => h) (fun _ _ _ => rfl) (fun _ _ => rfl) (fun _ _ _ h => h) e1 e2 fun b' hm => (bk b' (mem_names.2 (q2.cl b x b' hx hm))).1, fun g => own_eq e1 (q2.br b x hx).ver⟩
  refine ⟨u, A', L.back L0 m (namesB us), rfl, (rn_rv hv).2 (p1.frame' (fun _ _ h => h) (fun _ _ _ => rfl) fun b hb => (bk b (mem_names.2 (q5 b hb))).1), p2, p3, p4, p5, fun k hk hc => p6 k hk fun h => hc ((cl k).1 h), p7, p8, p9,
    fun g o hg => ?_, ⟨fun c y hy => ?_, fun c y g hy hg => ?_, fun c c' y y' g hy hy' hg hg' => ?_, fun c y d hy hm => ?_⟩, fun g hg => ?_, fun c hc hc' => ?_, fun c hc => ?_⟩
  · rcases q1 g o hg with h | h | h
    · exact .inl h
    · exact .inr (.inl h)
    · exact .inr (.inr ((cl g).1 h))
  · obtain ⟨b, x, rfl, hb, hx, rfl⟩ := inU c y hy
    exact (br_rn (wfB_get k5 b x hx)).2 (brU b x hx).1
  · obtain ⟨b, x, rfl, hb, hx, rfl⟩ := inU c y hy
    exact q2.lo b x g hx (((brU b x hx).2 g).1 (own_rn.1 hg))
  · obtain ⟨b, x, rfl, hb, hx, rfl⟩ := inU c y hy
    obtain ⟨b', x', rfl, hb', hx', rfl⟩ := inU c' y' hy'
    rw [q2.inj b b' x x' g hx hx' (((brU b x hx).2 g).1 (own_rn.1 hg)) (((brU b' x' hx').2 g).1 (own_rn.1 hg'))]
  · obtain ⟨b, x, rfl, hb, hx, rfl⟩ := inU c y hy
    obtain ⟨b', h1, rfl⟩ := bx_men_rn' (wfB_get k5 b x hx) hm
    have := q2.cl b x b' hx h1
    rw [gU b' (nU b' (mem_names.2 this))]
    cases hq : lk us b' with
    | none => exact absurd hq this
    | some y => simp
  · obtain ⟨c, y, hy, ho⟩ := hg
    obtain ⟨b, x, rfl, hb, hx, rfl⟩ := inU c y hy
    rcases q3 g ⟨b, x, hx, ((brU b x hx).2 g).1 (own_rn.1 ho)⟩ with h | h
    · exact .inl h
    · exact .inr ((cl g).1 h)
  · cases hy : lk (rnB m hs) c with
    | none => exact absurd hy hc
    | some y =>
      cases hz : lk (rnB m us) c with
      | none => exact absurd hz hc'
      | some z =>
        obtain ⟨b, x, rfl, hb, hx, rfl⟩ := inH c y hy
        obtain ⟨b', x', he, hb', hx', rfl⟩ := inU _ z hz
        have := hinj b (nH b hb) b' (nU b' hb') he
        subst this
        have e1 := (bk b hb').1.trans (q4 b (by rw [hx]; simp) (by rw [hx']; simp))
        exact ⟨e1.ι, e1.hd, e1.top, e1.sub⟩
  · obtain ⟨b, h1, rfl⟩ := men_rn' hv hc
    have := q5 b h1
    rw [gU b (nU b (mem_names.2 this))]
    cases hq : lk us b with
    | none => exact absurd hq this
    | some y => simp
end Go.Vm
end

section
/- Contracts under other names of the boxes: the usual shapes. -/
namespace Go.Vm
variable {P : Program} {f : FuncId}
theorem rnA_d (m : List (Nat × Nat)) (xs : List D) : rnA m (xs.map .d) = xs.map .d := by
  rw [rnA_map, List.map_map]; rfl
theorem wfA_d : ∀ xs : List D, wfA (xs.map .d) = true
  | [] => rfl
  | _ :: xs => wfA_d xs
theorem okXs_d (bx : List (Nat × Bx)) : ∀ xs : List D, okXs bx (xs.map .d) = true
  | [] => rfl
  | _ :: xs => okXs_d bx xs
/-- A new row is handed back. -/
theorem EvX.new1 {k n et : Nat} {es : List D} {fz : Bool} {xs : List D} (h : EvX P f (xs.map .d) [] (.own 9 k n) [(9, .row et k es fz)]) (b : Nat) : EvX P f (xs.map .d) [] (.own b k n) [(b, .row et k es fz)] := by
  have := h.rn [(9, b)] (by simp [injN, injN.chk, namesB, wfA, AV.wf, wfA_d, wfB, okXs_d, okCl])
  rw [rnA_d] at this
  exact this
end Go.Vm
end

section
/- A contract that is handed a closure as data, called with a closure that has captured variables: these are frozen. -/
namespace Go.Vm
def uncC (b : Nat) (ds : List D) : Cap → Cap
  | .box b' => match Nat.beq b b' with
    | true => .dat (.ref ds 0)
    | false => .box b'
  | .dat x => .dat x
def datL : List Cap → Option (List D)
  | [] => some []
  | c :: r => match c with
    | .box _ => none
    | .dat x => match datL r with
      | some l => some (x :: l)
      | none => none
def unc (b : Nat) (ds : List D) (v : AV) : AV := match v with
  | .fnv f cs => match datL (cs.map (uncC b ds)) with
    | some l => .d (.fn f l)
    | none => .fnv f (cs.map (uncC b ds))
  | .ptr b' off => match Nat.beq b b' with
    | true => .d (.ref ds off)
    | false => .ptr b' off
  | v => v
def noMen (b : Nat) : List AV → Bool
  | [] => true
  | c :: r => match c.men b with
    | true => false
    | false => noMen b r
def noMenB (b : Nat) : List (Nat × Bx) → Bool
  | [] => true
  | (b', x) :: r => match Nat.beq b b', x.men b with
    | false, false => noMenB b r
    | _, _ => false
theorem noMen_mem {b : Nat} : ∀ {l : List AV}, noMen b l = true → ∀ c ∈ l, c.men b = false
  | c :: r, h, c', hc => by
    rw [noMen] at h
    split at h
    · cases h
    · rename_i h1
      rcases List.mem_cons.1 hc with rfl | hc
      · exact h1
      · exact noMen_mem h c' hc
theorem noMenB_lk {b : Nat} : ∀ {l : List (Nat × Bx)}, noMenB b l = true → ∀ b' x, lk l b' = some x → b' ≠ b ∧ x.men b = false
  | [], _, b', x, hx => by cases hx
  | (k, y) :: r, h, b', x, hx => by
    rw [noMenB] at h
    split at h
    · rename_i h1 h2
      rw [lk] at hx
      split at hx
      · rename_i h3
        cases hx
        have := Nat.eq_of_beq_eq_true h3
        subst this
        refine ⟨?_, h2⟩
        rintro rfl
        rw [Nat.beq_refl] at h1; cases h1
      · exact noMenB_lk h b' x hx
    · cases h
theorem datL_get : ∀ {cs : List Cap} {l : List D}, datL cs = some l → l.length = cs.length ∧ ∀ (j : Nat) c, l[j]? = some c → cs[j]? = some (.dat c)
  | [], l, h => by cases h; exact ⟨rfl, fun j c h => by simp at h⟩
  | c :: r, l, h => by
    cases c with
    | box b => cases h
    | dat x =>
      simp only [datL] at h
      split at h
      · rename_i l' hl
        cases h
        obtain ⟨h1, h2⟩ := datL_get hl
        refine ⟨by simp [h1], fun j c hc => ?_⟩
        cases j with
        | zero => simp only [List.getElem?_cons_zero, Option.some.injEq] at hc ⊢; rw [hc]
        | succ j => simp only [List.getElem?_cons_succ] at hc ⊢; exact h2 j c hc
      · cases h
theorem capMen_iff {b : Nat} : ∀ {cs : List Cap}, capMen b cs = true ↔ .box b ∈ cs
  | [] => ⟨(fun h => by cases h), fun h => by cases h⟩
  | c :: r => by
    cases c with
    | box b' =>
      simp only [capMen, List.mem_cons, Cap.box.injEq]
      cases h : Nat.beq b b' with
      | true => exact ⟨(fun _ => .inl (Nat.eq_of_beq_eq_true h)), fun _ => rfl⟩
      | false => exact ⟨(fun h' => .inr (capMen_iff.1 h')), fun h' => by
          rcases h' with rfl | h'
          · rw [Nat.beq_refl] at h; cases h
          · exact capMen_iff.2 h'⟩
    | dat x =>
      simp only [capMen, List.mem_cons, reduceCtorEq, false_or]
      exact capMen_iff
theorem unc_men {b b' : Nat} {ds : List D} {c : AV} (h : (unc b ds c).men b' = true) : c.men b' = true := by
  cases c with
  | fnv f cs =>
    simp only [unc] at h
    split at h
    · cases h
    · simp only [AV.men] at h ⊢
      rw [capMen_iff] at h ⊢
      obtain ⟨x, hx, e⟩ := List.mem_map.1 h
      cases x with
      | dat y => simp [uncC] at e
      | box k =>
        simp only [uncC] at e
        split at e
        · cases e
        · rw [← e]; exact hx
  | ptr k off =>
    simp only [unc] at h
    split at h
    · cases h
    · exact h
  | _ => exact h
theorem unc_rv {L : Lay} {w : World} {A : Sta} {b : Nat} {ds : List D} (hr : ∀ off, Rep w A (.ref ds off) (.pointer (some ⟨L.ι b, off, none⟩))) {c : AV} {u : Value} (h : RV L w A c u) : RV L w A (unc b ds c) u := by
  have hc : ∀ (x : Cap) u, CapV L w A x u → CapV L w A (uncC b ds x) u := by
    intro x u hx
    cases x with
    | dat y => exact hx
    | box k =>
      simp only [uncC]
      split
      · rename_i e
        have := Nat.eq_of_beq_eq_true e
        subst this
        simp only [CapV] at hx ⊢
        rw [hx]; exact hr 0
      · exact hx
  cases h with
  | @fnv f caps vs hl hv =>
    have hv' : ∀ (j : Nat) c v, (caps.map (uncC b ds))[j]? = some c → vs[j]? = some v → CapV L w A c v := by
      intro j c v h1 h2
      rw [List.getElem?_map, Option.map_eq_some_iff] at h1
      obtain ⟨x, h3, rfl⟩ := h1
      exact hc x v (hv j x v h3 h2)
    simp only [unc]
    split
    · rename_i l hd
      obtain ⟨h1, h2⟩ := datL_get hd
      exact .d (.fn (by rw [h1, List.length_map]; exact hl) fun j c v h3 h4 => hv' j _ v (h2 j c h3) h4)
    · exact .fnv (by rw [List.length_map]; exact hl) hv'
  | ptr k off =>
    simp only [unc]
    split
    · rename_i e
      have := Nat.eq_of_beq_eq_true e
      subst this
      exact .d (hr off)
    · exact .ptr k off
  | d h => exact .d h
  | agg hl h1 hr => exact .agg hl h1 hr
  | tup hl hr => exact .tup hl hr
  | eptr b sz i off => exact .eptr b sz i off
  | own b sz n h1 => exact .own b sz n h1
  | sptr b sz i j => exact .sptr b sz i j
  | sub b v i h1 hv => exact .sub b v i h1 hv
  | mptr b v i j g hg hv => exact .mptr b v i j g hg hv
  | mp b => exact .mp b
  | view b sz lo hi g n C hh hb => exact .view b sz lo hi g n C hh hb
  | nil sz => exact .nil sz
  | undef => exact .undef
  | junk => exact .junk _
/-- A layout with one box as in another one. -/
def Lay.put (L' L : Lay) (b : Nat) : Lay := ⟨fun k => if k = b then L.ι k else L'.ι k, fun k => if k = b then L.hd k else L'.hd k, fun k => if k = b then L.sub k else L'.sub k, fun k => if k = b then L.top k else L'.top k⟩
theorem Lay.put_ne {L' L : Lay} {b k : Nat} (h : k ≠ b) : (L'.put L b).eqAt L' k := ⟨if_neg h, if_neg h, Nat.le_of_eq (if_neg h).symm, fun v _ i => by simp only [Lay.put, if_neg h]⟩
theorem Lay.put_eq {L' L : Lay} {b : Nat} : (L'.put L b).eqAt L b := ⟨if_pos rfl, if_pos rfl, Nat.le_of_eq (if_pos rfl).symm, fun v _ i => by simp only [Lay.put, if_pos]⟩
theorem menL_d {b : Nat} : ∀ ds : List D, AV.menL b (ds.map .d) = false
  | [] => rfl
  | _ :: r => menL_d r
theorem lk_c {α : Type} {l : List (Nat × α)} {b k : Nat} {x : α} : lk ((b, x) :: l) k = if k = b then some x else lk l k := by
  rw [lk]
  by_cases h : k = b
  · subst h; rw [Nat.beq_refl, if_pos rfl]
  · rw [if_neg h]
    cases e : Nat.beq b k with
    | true => exact absurd (Nat.eq_of_beq_eq_true e).symm h
    | false => rfl
theorem EvX.cap {P : Program} {f : FuncId} {xs : List AV} {hs us : List (Nat × Bx)} {v : AV} (b : Nat) (ds : List D) (fz : Bool) (h : EvX P f (xs.map (unc b ds)) hs v us)
    (hok : (ds.all D.one && (noMen b (xs.map (unc b ds)) && (noMenB b hs && (noMenB b us && !v.men b)))) = true) : EvX P f xs ((b, .var (ds.map .d) fz) :: hs) v ((b, .var (ds.map .d) true) :: us) := by
  simp only [Bool.and_eq_true, List.all_eq_true, Bool.not_eq_true'] at hok
  obtain ⟨h1, h2, h3, h4, h5⟩ := hok
  refine ⟨h.fn, fun B0 w A L vals hB hA hn hr hm hk => ?_⟩
  obtain ⟨C, t, b1, b2, b3, b4⟩ := hk.br b _ (by rw [lk_c, if_pos rfl])
  have hlb : lk ((b, Bx.var (ds.map .d) fz) :: hs) b = some (Bx.var (ds.map .d) fz) := by rw [lk_c, if_pos rfl]
  obtain ⟨lo1, lo2⟩ := hk.lo b _ (L.ι b) hlb rfl
  rw [List.length_map] at b2
  have hA1 : ∀ g o, A g o → frzSta A (fun g o => g = L.ι b ∧ o < ds.length) g o := fun _ _ => .inl
  have hcell : ∀ (j : Nat) c, ds[j]? = some c → ∃ u, w.cell? ⟨L.ι b, j, none⟩ = some u ∧ Rep w A c u := by
    intro j c hc
    have hlt := lt_of_get hc
    obtain ⟨u, hu⟩ := arr_get (C := C) (j := j) (by omega)
    exact ⟨u, by rw [cell_of_row w (L.ι b) j C t (0, 0) b1]; exact hu, rv_d (b3 j (.d c) u (by simp [hc]) hu)⟩
  have hrep : ∀ off, Rep w (frzSta A fun g o => g = L.ι b ∧ o < ds.length) (.ref ds off) (.pointer (some ⟨L.ι b, off, none⟩)) := by
    intro off
    have := Rep.ref (w := w) (A := frzSta A fun g o => g = L.ι b ∧ o < ds.length) (cs := ds) (off := off) (L.ι b) 0 (fun j => (w.cell? ⟨L.ι b, j, none⟩).getD undef) h1 (fun j c hc => by
      obtain ⟨u, q1, q2⟩ := hcell j c hc
      rw [Nat.zero_add, q1]
      exact ⟨.inr ⟨rfl, lt_of_get hc⟩, rfl⟩) fun j c hc => by
      obtain ⟨u, q1, q2⟩ := hcell j c hc
      rw [q1]
      exact q2.frame hA1 fun _ _ _ => rfl
    rwa [Nat.zero_add] at this
  have hne : ∀ b' x, lk hs b' = some x → lk ((b, Bx.var (ds.map .d) fz) :: hs) b' = some x := fun b' x hx => by rw [lk_c, if_neg (noMenB_lk h3 b' x hx).1]; exact hx
  have hsub : ∀ {g}, claims L hs g → claims L ((b, Bx.var (ds.map .d) fz) :: hs) g := fun ⟨b', x, hx, ho⟩ => ⟨b', x, hne b' x hx, ho⟩
  have hnot : ¬ claims L hs (L.ι b) := fun ⟨b', x, hx, ho⟩ => (noMenB_lk h3 b' x hx).1 (hk.inj b' b _ _ _ (hne b' x hx) hlb ho rfl)
  refine (h.run B0 w (frzSta A fun g o => g = L.ι b ∧ o < ds.length) L vals hB (fun g o hg => by
      rcases hg with hg | hg
      · exact hA g o hg
      · rw [hg.1]; exact lo2) (by rw [List.length_map]; exact hn) (fun j c u hc hu => by
      rw [List.getElem?_map, Option.map_eq_some_iff] at hc
      obtain ⟨c', hc', rfl⟩ := hc
      exact unc_rv hrep ((hr j c' u hc' hu).frame hA1 (fun _ _ _ => rfl) fun _ _ => .rfl')) (fun j c b' hc hb' => by
      have hc1 := hc
      rw [List.getElem?_map, Option.map_eq_some_iff] at hc
      obtain ⟨c', hc', rfl⟩ := hc
      have := hm j c' b' hc' (unc_men hb')
      rw [lk_c] at this
      split at this
      · rename_i e
        subst e
        rw [noMen_mem h2 _ (List.mem_of_getElem? hc1)] at hb'; cases hb'
      · exact this) ⟨fun b' x hx => by
      refine (hk.br b' x (hne b' x hx)).keep hA1 (fun _ _ _ => rfl) (fun _ _ => rfl) (fun g o ho hg => ?_) .rfl' rfl fun _ _ => .rfl'
      rcases hg with hg | ⟨rfl, _⟩
      · exact hg
      · exact absurd ⟨b', x, hx, ho⟩ hnot, fun b' x g hx ho => hk.lo b' x g (hne b' x hx) ho, fun b' b'' x x' g hx hx' ho ho' => hk.inj b' b'' x x' g (hne b' x hx) (hne b'' x' hx') ho ho', fun b' x b'' hx hb'' => by
      have := hk.cl b' x b'' (hne b' x hx) hb''
      rw [lk_c] at this
      split at this
      · rename_i e
        subst e
        rw [(noMenB_lk h3 b' x hx).2] at hb''; cases hb''
      · exact this⟩).mono fun e w' hpost => ?_
  obtain ⟨u, A', L', p1, p2, p3, p4, p5, p6, p7, p8, p9, p10, p11, p12, p13, p14, p15⟩ := hpost
  have hput : ∀ b' x, lk us b' = some x → (L'.put L b).eqAt L' b' := fun b' x hx => Lay.put_ne (noMenB_lk h4 b' x hx).1
  have hown : ∀ b' x g, lk us b' = some x → (own (L'.put L b) b' x g ↔ own L' b' x g) := fun b' x g hx => own_eq (hput b' x hx) (p12.br b' x hx).ver
  have hlow : w'.heap[L.ι b]? = w.heap[L.ι b]? := p7 _ lo2 hnot
  have hcl2 : ∀ {g}, claims L' us g → g ≠ L.ι b := by
    rintro g hg rfl
    rcases p13 _ hg with h | h
    · omega
    · exact hnot h
  refine ⟨u, A', L'.put L b, p1, p2.frame' (fun _ _ h => h) (fun _ _ _ => rfl) fun b' hb' => Lay.put_ne fun e => (by rw [e, h5] at hb'; cases hb'), p3, p4, p5, p6, fun k hk' hc => p7 k hk' fun h => hc (hsub h), fun g o hg => p8 g o (.inl hg), fun g o hg => p9 g o (.inl hg), p10, fun g o hg => ?_, ⟨fun b' x hx => ?_, fun b' x g hx ho => ?_, fun b' b'' x x' g hx hx' ho ho' => ?_, fun b' x b'' hx hb'' => ?_⟩, fun g hg => ?_, fun b' hb' hb'' => ?_, fun b' hb' => ?_⟩
  · rcases p11 g o hg with (h | ⟨rfl, _⟩) | h | h
    · exact .inl h
    · exact .inr (.inr ⟨b, _, hlb, rfl⟩)
    · exact .inr (.inl h)
    · exact .inr (.inr (hsub h))
  · rw [lk_c] at hx
    split at hx
    · rename_i e
      subst e; cases hx
      refine ⟨C, t, by rw [Lay.put_eq.ι, hlow]; exact b1, by rw [List.length_map]; exact b2, fun j c u hc hu => (b3 j c u hc hu).frame (fun g o hg => p8 g o (.inl hg)) (fun g o hg => p9 g o (.inl hg)) fun k hk' => ?_, fun hf => (by cases hf)⟩
      rw [List.getElem?_map, Option.map_eq_some_iff] at hc
      obtain ⟨d, _, rfl⟩ := hc
      cases hk'
    · exact (p12.br b' x hx).keep (fun _ _ h => h) (fun _ _ _ => rfl) (fun _ _ => rfl) (fun _ _ _ h => h) (hput b' x hx) (if_neg (noMenB_lk h4 b' x hx).1) fun b'' hb'' => Lay.put_ne fun e => by rw [e, (noMenB_lk h4 b' x hx).2] at hb''; cases hb''
  · rw [lk_c] at hx
    split at hx
    · rename_i e
      subst e; cases hx
      have e : g = L.ι b' := by rw [show g = (L'.put L b').ι b' from ho, Lay.put_eq.ι]
      rw [e]; exact ⟨lo1, by omega⟩
    · exact p12.lo b' x g hx ((hown b' x g hx).1 ho)
  · rw [lk_c] at hx hx'
    split at hx
    · rename_i e
      subst e; cases hx
      have e : g = L.ι b' := by rw [show g = (L'.put L b').ι b' from ho, Lay.put_eq.ι]
      split at hx'
      · rename_i e'; exact e'.symm
      · exact absurd e (hcl2 ⟨b'', x', hx', (hown b'' x' g hx').1 ho'⟩)
    · split at hx'
      · rename_i e'
        subst e'; cases hx'
        have e : g = L.ι b'' := by rw [show g = (L'.put L b'').ι b'' from ho', Lay.put_eq.ι]
        exact absurd e (hcl2 ⟨b', x, hx, (hown b' x g hx).1 ho⟩)
      · exact p12.inj b' b'' x x' g hx hx' ((hown b' x g hx).1 ho) ((hown b'' x' g hx').1 ho')
  · rw [lk_c] at hx
    split at hx
    · cases hx
      rw [show (Bx.var (ds.map .d) true).men b'' = AV.menL b'' (ds.map .d) from rfl, menL_d] at hb''; cases hb''
    · have := p12.cl b' x b'' hx hb''
      rw [lk_c]
      split
      · simp
      · exact this
  · obtain ⟨b', x, hx, ho⟩ := hg
    rw [lk_c] at hx
    split at hx
    · rename_i e
      subst e; cases hx
      have e : g = L.ι b' := by rw [show g = (L'.put L b').ι b' from ho, Lay.put_eq.ι]
      exact .inr ⟨b', _, hlb, e⟩
    · rcases p13 g ⟨b', x, hx, (hown b' x g hx).1 ho⟩ with h | h
      · exact .inl h
      · exact .inr (hsub h)
  · by_cases e : b' = b
    · subst e; exact Lay.put_eq
    · rw [lk_c, if_neg e] at hb' hb''
      exact (Lay.put_ne e).trans (p14 b' hb' hb'')
  · rw [lk_c]
    split
    · simp
    · exact p15 b' hb'
end Go.Vm
end

section
/- Loops whose head names parts of slices, too. -/
namespace Go.Vm
def rnOv (σ : St) : List (Nat × AV) → List (Nat × Option Nat)
  | [] => []
  | (t, v) :: r => match v with
    | .own b _ _ => match σ.get t with
      | .own b' _ _ => (b, some b') :: rnOv σ r
      | .nil _ => (b, none) :: rnOv σ r
      | _ => rnOv σ r
    | .view b _ _ _ => match σ.get t with
      | .view b' _ _ _ => (b, some b') :: rnOv σ r
      | _ => rnOv σ r
    | .ptr b _ => match σ.get t with
      | .ptr b' _ => (b, some b') :: rnOv σ r
      | _ => rnOv σ r
    | .mp b => match σ.get t with
      | .mp b' => (b, some b') :: rnOv σ r
      | _ => rnOv σ r
    | _ => rnOv σ r
def dropOv (σ : St) : List (Nat × AV) → List Nat
  | [] => []
  | (t, v) :: r => match v with
    | .own b _ _ => match σ.get t with
      | .own b' _ _ => match Nat.beq b b' with
        | true => dropOv σ r
        | false => b' :: dropOv σ r
      | _ => dropOv σ r
    | .view b _ _ _ => match σ.get t with
      | .view b' _ _ _ => match Nat.beq b b' with
        | true => dropOv σ r
        | false => b' :: dropOv σ r
      | _ => dropOv σ r
    | _ => dropOv σ r
theorem LoopK.o3 {W : (Ex → St → Prop) → St → Prop} {K : Ex → St → Prop} {σ : St} {m : Nat} {ι : Type} (I : ι → Prop) (ch : ι → List (Nat × AV)) (chb : ι → List (Nat × Bx)) (μ : ι → Nat) (i0 : ι)
    (hi0 : I i0) (h0 : Le σ (ovr m (dropOv σ (ch i0)) σ (ch i0) (chb i0)) (rnOv σ (ch i0) ++ rnBx σ (chb i0)))
    (round : ∀ i, I i → ovrK m (dropOv σ (ch i0)) σ (ch i) (chb i) (W (fun e σ' => match e with
      | .normal => Again I (fun i => ovr m (dropOv σ (ch i0)) σ (ch i) (chb i)) (fun i' => μ i' < μ i) σ'
      | e => K e σ'))) : LoopK W K σ m :=
  .mk I (fun i => ovr m (dropOv σ (ch i0)) σ (ch i) (chb i)) μ i0 _ hi0 h0 fun i hi => by
    have := round i hi
    rw [ovrK_eq] at this
    exact this
theorem Again.av {ι : Type} {I : ι → Prop} {m : Nat} {db : List Nat} {σ0 σ : St} {ch : ι → List (Nat × AV)} {chb : ι → List (Nat × Bx)} {less : ι → Prop} (i' : ι) (hi : I i') (hm : less i')
    (hl : Le σ (ovr m db σ0 (ch i') (chb i')) (rnOv σ (ch i') ++ rnBx σ (chb i'))) : Again I (fun i => ovr m db σ0 (ch i) (chb i)) less σ := .mk i' _ hi hm hl
theorem view_congr {b sz lo hi lo' hi' : Nat} (h : lo = lo') (h' : hi = hi') : AV.view b sz lo hi = AV.view b sz lo' hi' := by rw [h, h']
end Go.Vm
end
