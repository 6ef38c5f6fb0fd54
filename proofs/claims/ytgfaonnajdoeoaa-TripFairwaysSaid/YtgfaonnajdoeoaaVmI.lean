/- Each operation, fifth part: slices of strings and lists, len, min, max, append, make. -/
import Derived.Test.YtgfaonnajdoeoaaVmH
import Derived.Laws.Append
import Derived.Laws.AppendOwn
import Derived.Laws.MakeOwn
namespace Go.Vm
open Go.RowKit (Below)
section
variable {P : Program} {S : Tys}
variable {w0 : World} {A0 : Sta} {N : Nat} {L : Lay} {A : Sta} {T : Nat → AV} {B : Nat → Option Bx} {a : Act} {w : World}

theorem loI_out {x : Option Operand} {k : Int → Res} {v : AV} {ups} (hI : Inv w0 A0 N L A T B a w) (ho : Out P (loI (x.map (evA T)) k) v ups) :
    ∃ n : Int, Out P (k n) v ups ∧ ((x.map a.eval = none ∧ n = 0) ∨ ∃ ik, x.map a.eval = some (.int ik n)) := by
  cases x with
  | none => exact ⟨0, ho, .inl ⟨rfl, rfl⟩⟩
  | some x =>
    have hx := ev_rv hI x
    simp only [Option.map_some, loI] at ho
    split at ho
    · rename_i h; cases h
    · rename_i ik n h
      simp only [Option.some.injEq] at h
      rw [h] at hx
      exact ⟨_, ho, .inr ⟨ik, by rw [Option.map_some, rv_int hx]⟩⟩
    · cases ho
theorem hiI_out {len : Nat} {x : Option Operand} {k : Int → Res} {v : AV} {ups} (hI : Inv w0 A0 N L A T B a w) (ho : Out P (hiI len (x.map (evA T)) k) v ups) :
    ∃ n : Int, Out P (k n) v ups ∧ ((x.map a.eval = none ∧ n = len) ∨ ∃ ik, x.map a.eval = some (.int ik n)) := by
  cases x with
  | none => exact ⟨len, ho, .inl ⟨rfl, rfl⟩⟩
  | some x =>
    have hx := ev_rv hI x
    simp only [Option.map_some, hiI] at ho
    split at ho
    · rename_i h; cases h
    · rename_i ik n h
      simp only [Option.some.injEq] at h
      rw [h] at hx
      exact ⟨_, ho, .inr ⟨ik, by rw [Option.map_some, rv_int hx]⟩⟩
    · cases ho
theorem run_bounds {isSlice : Bool} {len cap : Nat} {lo hi : Option Value} {l h : Int} (hlo : (lo = none ∧ l = 0) ∨ ∃ ik, lo = some (.int ik l)) (hhi : (hi = none ∧ h = len) ∨ ∃ ik, hi = some (.int ik h))
    (h0 : 0 ≤ l ∧ l ≤ h ∧ h ≤ (len : Int)) (hc : len ≤ cap) : (Instr.sliceBounds isSlice len cap lo hi none).run P w = .ok (l.toNat, h.toNat, cap) w := by
  have hb : ∀ (ik : IntKind) (n : Int) (y : Nat) (code : BoundsCode), 0 ≤ n ∧ n ≤ (y : Int) → (Instr.sliceBound (.int ik n) y code).run P w = .ok n.toNat w := by
    intro ik n y code hn
    simp [Instr.sliceBound, asIntOf, hn]
  have c2 : 0 ≤ h ∧ h ≤ (cap : Int) := by omega
  have c3 : 0 ≤ l ∧ l ≤ (h.toNat : Int) := by omega
  rcases hhi with ⟨rfl, rfl⟩ | ⟨ik, rfl⟩
  · rcases hlo with ⟨rfl, rfl⟩ | ⟨ik', rfl⟩
    · simp [Instr.sliceBounds]
    · have f := hb ik' l len .sliceB (by omega)
      simp [Instr.sliceBounds, f]
  · have g1 := hb ik h cap .sliceAcap c2
    have g2 := hb ik h cap .sliceAlen c2
    rcases hlo with ⟨rfl, rfl⟩ | ⟨ik', rfl⟩
    · cases isSlice <;> simp [Instr.sliceBounds, g1, g2]
    · have f := hb ik' l h.toNat .sliceB c3
      cases isSlice <;> simp [Instr.sliceBounds, f, g1, g2]

theorem s_slice (hS : TysOk P S) {dst type pos after guard} (t : TypeId) (x : Operand) (lo hi mx : Option Operand) : Sound P S ⟨dst, .slice t x lo hi mx, type, pos, after, guard⟩ := by
  refine ⟨?_⟩
  intro w0 A0 N L A T B a w v ups T1 B1 T2 K Q hI ho hu hp hK
  have hx := ev_rv hI x
  simp only [eff] at ho
  refine outV hI ho hu hp hK ?_
  split at ho
  · rename_i ti ht
    have ht := hS _ _ ht
    split at ho
    · rename_i s hu1 hb
      rw [hb] at hx
      have hx := rv_str hx
      have htu : P.underlying t = some .string := by rw [ht.und, hu1]
      obtain ⟨l, ho, hl⟩ := loI_out hI ho
      obtain ⟨h, ho, hh⟩ := hiI_out hI ho
      cases ho with
      | need h0 ho =>
        cases ho
        refine ⟨rfl, .string (s.extract l.toNat h.toNat), ?_, .d (.str _)⟩
        have := run_bounds (P := P) (w := w) (isSlice := false) (cap := s.size) hl hh h0 (Nat.le_refl _)
        simp [execOp, Instr.sliceAt, Instr.slice, run_underlying htu, hx, this]
    · rename_i e sz es hu1 hb
      rw [hb] at hx
      have htu : P.underlying t = some (.slice e) := by rw [ht.und, hu1]
      split at ho
      · rename_i te hte
        have hte := hS _ _ hte
        split at ho
        · rename_i hsz
          have hsz := Nat.eq_of_beq_eq_true hsz
          obtain ⟨l, ho, hl⟩ := loI_out hI ho
          obtain ⟨h, ho, hh⟩ := hiI_out hI ho
          cases ho with
          | need h0 ho =>
            cases ho
            have hlen : ((es.take h.toNat).drop l.toNat).length = h.toNat - l.toNat := by
              rw [List.length_drop, List.length_take]; omega
            have run : ∀ p cap, a.eval x = .slice p es.length cap → es.length ≤ cap → (execOp a.eval ⟨dst, .slice t x lo hi none, type, pos, after, guard⟩).run P w = .ok (.value (.slice (if cap = l.toNat then p else p.map (·.add (l.toNat * sz))) (h.toNat - l.toNat) (cap - l.toNat))) w := by
              intro p cap hv hc
              have := run_bounds (P := P) (w := w) (isSlice := true) (cap := cap) hl hh h0 hc
              simp [execOp, Instr.sliceAt, Instr.slice, run_underlying htu, hv, this, hte.run_size, hsz]
            cases hnil : (es.take h.toNat).drop l.toNat with
            | nil =>
              rw [hnil] at hlen
              have e0 : h.toNat - l.toNat = 0 := by simpa using hlen.symm
              rcases rv_sl hx with ⟨rfl, p, cap, hv⟩ | ⟨g, o, cap, uu, hv, h1, _⟩
              · exact ⟨rfl, _, run p cap hv (Nat.zero_le _), by rw [e0]; exact .d (.slnil _ _ _)⟩
              · exact ⟨rfl, _, run _ cap hv h1, by rw [e0]; exact .d (.slnil _ _ _)⟩
            | cons e1 er =>
              rw [hnil] at hlen
              simp only [List.length_cons] at hlen
              rcases rv_sl hx with ⟨rfl, p, cap, hv⟩ | ⟨g, o, cap, uu, hv, h1, h2, h3, h4⟩
              · simp at hnil
              · refine ⟨rfl, _, run _ cap hv h1, ?_⟩
                rw [if_neg (by omega), ← hnil]
                have get : ∀ (i : Nat) c, ((es.take h.toNat).drop l.toNat)[i]? = some c → es[l.toNat + i]? = some c := by
                  intro i c hc
                  rw [List.getElem?_drop, List.getElem?_take] at hc
                  split at hc
                  · exact hc
                  · cases hc
                have hadd : (⟨g, o, none⟩ : Addr).add (l.toNat * sz) = ⟨g, o + l.toNat * sz, none⟩ := Addr.add_mid g o _
                have hlen' : ((es.take h.toNat).drop l.toNat).length = h.toNat - l.toNat := by rw [List.length_drop, List.length_take]; omega
                rw [Option.map_some, hadd, ← hlen']
                have hrow : ∀ i j : Nat, o + l.toNat * sz + i * sz + j = o + (l.toNat + i) * sz + j := by intro i j; rw [Nat.add_mul]; omega
                refine .d (.sl g (o + l.toNat * sz) (fun i j => uu (l.toNat + i) j) (by omega) (fun i e he => h2 _ e (get i e he)) (fun i e j c he hc => ?_) fun i e j c he hc => h4 _ e j c (get i e he) hc)
                rw [hrow]
                exact h3 _ e j c (get i e he) hc
        · cases ho
      · cases ho
    · cases ho
  · cases ho

theorem foldI_spec (f : Int → Int → Int) (g2 : Value → Value → Sem Value) (hg : ∀ x y w, (g2 (.int .i64 x) (.int .i64 y)).run P w = .ok (.int .i64 (f x y)) w) (hI : Inv w0 A0 N L A T B a w) :
    ∀ (l : List Operand) (x z : Int), foldI f x (l.map (evA T)) = some z → (List.foldlM g2 (.int .i64 x) (l.map a.eval)).run P w = .ok (.int .i64 z) w
  | [], x, z, h => by simp only [List.map_nil, foldI] at h; cases h; rfl
  | y :: l, x, z, h => by
    have hy := ev_rv hI y
    simp only [List.map_cons, foldI] at h
    split at h
    · rename_i b hb
      rw [hb] at hy
      have hy := rv_int hy
      simp only [List.map_cons, List.foldlM_cons, Sem.run_bind, hy, hg, Result.andThen_ok]
      exact foldI_spec f g2 hg hI l _ _ h
    · cases h

theorem run_call_builtin {dst type pos after guard} {b : Builtin} {args : Array Operand} {argTypes : Array TypeId} {u : Value} {f : Array TypeId → TypeId → Array Value → Sem Value} {w' : World}
    (hb : ∀ (as : Array Value) (cs : Array Bool), builtin b argTypes type cs as = (do pure (.value (← f argTypes type as)) : Sem Next))
    (hr : (f argTypes type (args.map a.eval)).run P w = .ok u w') :
    (execOp a.eval ⟨dst, .call { callee := .builtin b, args := args, argTypes := argTypes }, type, pos, after, guard⟩).run P w = .ok (.value u) w' := by
  simp only [execOp, resolve, invoke, Sem.run_bind, Sem.run_pure, Result.andThen_ok, hb, hr]

theorem map_two {c : Array Operand} {f : Operand → AV} {x y : AV} (h : c.toList.map f = [x, y]) : ∃ p q, c = #[p, q] ∧ f p = x ∧ f q = y := by
  obtain ⟨l⟩ := c
  match l, h with
  | [p, q], h => simp only [List.map_cons, List.map_nil, List.cons.injEq, and_true] at h; exact ⟨p, q, rfl, h.1, h.2⟩

theorem s_len (hS : TysOk P S) {dst type pos after guard} (args : Array Operand) (argTypes : Array TypeId) : Sound P S ⟨dst, .call { callee := .builtin .len, args := args, argTypes := argTypes }, type, pos, after, guard⟩ := by
  refine ⟨?_⟩
  intro w0 A0 N L A T B a w v ups T1 B1 T2 K Q hI ho hu hp hK
  simp only [eff] at ho
  refine outV hI ho hu hp hK ?_
  split at ho
  · rename_i vx t tr hargs htys
    obtain ⟨l⟩ := args
    match l, hargs with
    | [x], hargs =>
      simp only [List.map_cons, List.map_nil, List.cons.injEq, and_true] at hargs
      have hx := ev_rv hI x
      rw [hargs] at hx
      have h0 : argTypes[0]? = some t := by rw [← Array.getElem?_toList, htys]; rfl
      split at ho
      · rename_i ti ht
        have ht := hS _ _ ht
        have go : ∀ (n : Int), (Builtin.len_ argTypes type #[a.eval x]).run P w = .ok (.int .i64 n) w →
            ∃ u, (execOp a.eval ⟨dst, .call { callee := .builtin .len, args := #[x], argTypes := argTypes }, type, pos, after, guard⟩).run P w = .ok (.value u) w ∧ RV L w A (.d (.int .i64 n)) u :=
          fun n h => ⟨_, run_call_builtin (f := Builtin.len_) (fun _ _ => rfl) (by simpa using h), .d (.int _ _)⟩
        have slice : ∀ p n c e, ti.und = .slice e → a.eval x = .slice p n c → (Builtin.len_ argTypes type #[a.eval x]).run P w = .ok (.int .i64 (n : Int)) w := by
          intro p n c e hu1 hv
          have htu : P.underlying t = some (.slice e) := by rw [ht.und, hu1]
          simp [Builtin.len_, h0, run_underlying htu, hv, goInt]
        split at ho
        · have hu1 : ∃ e, ti.und = .slice e := ⟨_, by assumption⟩
          obtain ⟨e, hu1⟩ := hu1
          cases ho
          obtain ⟨p, cap, hv⟩ := sl_len hx
          exact ⟨rfl, go _ (slice _ _ _ _ hu1 hv)⟩
        · have hu1 : ∃ e, ti.und = .slice e := ⟨_, by assumption⟩
          obtain ⟨e, hu1⟩ := hu1
          have hx := rv_own hx
          split at ho
          · rename_i et sz' es fz hbx
            cases ho
            obtain ⟨p, cap, hv⟩ := own_len hI hbx
            exact ⟨rfl, go _ (slice _ _ _ _ hu1 (hx.trans hv))⟩
          · cases ho
        · have hu1 : ∃ e, ti.und = .slice e := ⟨_, by assumption⟩
          obtain ⟨e, hu1⟩ := hu1
          cases ho
          exact ⟨rfl, go 0 (slice _ 0 _ _ hu1 (rv_nil hx))⟩
        · have hu1 : ti.und = .string := by assumption
          cases ho
          have hx := rv_str hx
          have htu : P.underlying t = some .string := by rw [ht.und, hu1]
          exact ⟨rfl, go _ (by simp [Builtin.len_, h0, run_underlying htu, hx, goInt])⟩
        · cases ho
          refine ⟨rfl, go _ ?_⟩
          have htu := ht.und
          simp [Builtin.len_, run_underlying htu, goInt, *]
        · cases ho
      · cases ho
  · cases ho

theorem s_min {dst type pos after guard} (args : Array Operand) (argTypes : Array TypeId) : Sound P S ⟨dst, .call { callee := .builtin .min, args := args, argTypes := argTypes }, type, pos, after, guard⟩ := by
  refine ⟨?_⟩
  intro w0 A0 N L A T B a w v ups T1 B1 T2 K Q hI ho hu hp hK
  simp only [eff] at ho
  refine outV hI ho hu hp hK ?_
  split at ho
  · rename_i x vs hargs
    split at ho
    · rename_i z hz
      cases ho
      obtain ⟨l⟩ := args
      match l, hargs with
      | y :: l, hargs =>
        simp only [List.map_cons, List.cons.injEq] at hargs
        have hy := ev_rv hI y
        rw [hargs.1] at hy
        have hy := rv_int hy
        rw [← hargs.2] at hz
        refine ⟨rfl, _, run_call_builtin (f := Builtin.min_) (fun _ _ => rfl) (u := .int .i64 z) (w' := w) ?_, .d (.int _ _)⟩
        simp only [Builtin.min_, List.map_toArray, List.map_cons, hy]
        exact foldI_spec minI Builtin.min2 (fun x y w => by simp [Builtin.min2, minI]) hI l x z hz
    · cases ho
  · cases ho
theorem s_max {dst type pos after guard} (args : Array Operand) (argTypes : Array TypeId) : Sound P S ⟨dst, .call { callee := .builtin .max, args := args, argTypes := argTypes }, type, pos, after, guard⟩ := by
  refine ⟨?_⟩
  intro w0 A0 N L A T B a w v ups T1 B1 T2 K Q hI ho hu hp hK
  simp only [eff] at ho
  refine outV hI ho hu hp hK ?_
  split at ho
  · rename_i x vs hargs
    split at ho
    · rename_i z hz
      cases ho
      obtain ⟨l⟩ := args
      match l, hargs with
      | y :: l, hargs =>
        simp only [List.map_cons, List.cons.injEq] at hargs
        have hy := ev_rv hI y
        rw [hargs.1] at hy
        have hy := rv_int hy
        rw [← hargs.2] at hz
        refine ⟨rfl, _, run_call_builtin (f := Builtin.max_) (fun _ _ => rfl) (u := .int .i64 z) (w' := w) ?_, .d (.int _ _)⟩
        simp only [Builtin.max_, List.map_toArray, List.map_cons, hy]
        exact foldI_spec maxI Builtin.max2 (fun x y w => by simp [Builtin.max2, maxI]) hI l x z hz
    · cases ho
  · cases ho
end
end Go.Vm
