/- The reckoner's steps on operations that only look, the second part; all of them together. -/
import Derived.Test.YteijgmmjgbgffaaDoorVcQuiet
namespace Go.V
set_option linter.unusedSectionVars false
variable [Sp]
section
variable {P : Program} {T : Tab} {yl : Option YG} {y : Value} {n : Nat} {fr : Fr} {a : Act} {w : World} {o : Oper} {al : Al} {H : Hp} {K : AV → Hp → Al → Prop}

theorem opI_none {x : Option Operand} (h : opI fr x = some none) : x = none := by
  unfold opI at h
  split at h
  · rfl
  · split at h <;> cases h

theorem opI_some {x : Option Operand} {i : Int} (hS : Sat y n fr a) (h : opI fr x = some (some i)) : ∃ k, x.map a.eval = some (.int k i) := by
  unfold opI at h
  split at h
  · cases h
  · split at h
    · rename_i k j hj
      simp only [Option.some.injEq] at h
      subst h
      exact ⟨k, by simp [ev_eval hS hj]⟩
    · cases h

theorem run_sliceBound (k : IntKind) (j y : Nat) (code : BoundsCode) (h : j ≤ y) : (Instr.sliceBound (.int k j) y code).run P w = .ok j w := by
  simp [Instr.sliceBound, asIntOf, h]

theorem BND_run {lo hi : Option Int} {lx hx : Option Operand} {isS : Bool} {len cap : Nat} {F : Nat → Nat → Prop} (hS : Sat y n fr a) (hl : opI fr lx = some lo) (hh : opI fr hx = some hi) (h : BND lo hi len cap F) :
    ∃ j k, (∀ w, (Instr.sliceBounds isS len cap (lx.map a.eval) (hx.map a.eval) none).run P w = .ok (j, k, cap) w) ∧ F j k := by
  unfold BND at h
  split at h
  · have e1 := opI_none hl
    have e2 := opI_none hh
    subst e1; subst e2
    exact ⟨0, len, fun w => by simp [Instr.sliceBounds], h⟩
  · rename_i hv
    obtain ⟨k, rfl, hk, h⟩ := h
    have e1 := opI_none hl
    subst e1
    obtain ⟨kk, e2⟩ := opI_some hS hh
    rw [e2]
    exact ⟨0, k, fun w => by simp [Instr.sliceBounds, run_sliceBound _ _ _ _ hk], h⟩
  · rename_i lv
    obtain ⟨j, rfl, hj, h⟩ := h
    have e2 := opI_none hh
    subst e2
    obtain ⟨kk, e1⟩ := opI_some hS hl
    rw [e1]
    exact ⟨j, len, fun w => by simp [Instr.sliceBounds, run_sliceBound _ _ _ _ hj], h⟩
  · rename_i lv hv
    obtain ⟨j, k, rfl, rfl, hk, hj, h⟩ := h
    obtain ⟨k1, e1⟩ := opI_some hS hl
    obtain ⟨k2, e2⟩ := opI_some hS hh
    rw [e1, e2]
    exact ⟨j, k, fun w => by simp [Instr.sliceBounds, run_sliceBound _ _ _ _ hk, run_sliceBound _ _ _ _ hj], h⟩

theorem BND_run3 {lo : Option Int} {hv : Int} {lx hx mx : Option Operand} {len cap m : Nat} {km : IntKind} {F : Nat → Nat → Prop} (hS : Sat y n fr a) (hl : opI fr lx = some lo) (hh : opI fr hx = some (some hv)) (hm : mx.map a.eval = some (.int km (m : Int))) (hmc : m ≤ cap)
    (h : BND lo (some hv) len m F) :
    ∃ j k, (∀ w, (Instr.sliceBounds true len cap (lx.map a.eval) (hx.map a.eval) (mx.map a.eval)).run P w = .ok (j, k, m) w) ∧ F j k := by
  unfold BND at h
  split at h
  · rename_i hx'; cases hx'
  · rename_i hv' hx'
    cases hx'
    obtain ⟨k, rfl, hk, h⟩ := h
    have e1 := opI_none hl
    subst e1
    obtain ⟨kk, e2⟩ := opI_some hS hh
    rw [e2, hm]
    exact ⟨0, k, fun w => by simp [Instr.sliceBounds, run_sliceBound _ _ _ _ hk, run_sliceBound _ _ _ _ hmc], h⟩
  · rename_i hx'; cases hx'
  · rename_i lv hv' hx'
    cases hx'
    obtain ⟨j, k, rfl, rfl, hk, hj, h⟩ := h
    obtain ⟨k1, e1⟩ := opI_some hS hl
    obtain ⟨k2, e2⟩ := opI_some hS hh
    rw [e1, e2, hm]
    exact ⟨j, k, fun w => by simp [Instr.sliceBounds, run_sliceBound _ _ _ _ hk, run_sliceBound _ _ _ _ hj, run_sliceBound _ _ _ _ hmc], h⟩

theorem movA_eq (p : Option Addr) (j s m : Nat) : (if m = j then p else p.map (·.add (j * s))) = movA p j s m := by
  cases p with
  | none => by_cases h : m = j <;> simp [h, movA]
  | some ad =>
    obtain ⟨b, o, sp⟩ := ad
    cases sp with
    | none => by_cases h : m = j <;> simp [h, movA, add_off, mulS_eq]
    | some x => by_cases h : m = j <;> simp [h, movA]

theorem isSh_str {t : TypeId} (hT : TOk P T) (h : isSh T t .str = true) : P.underlying t = some .string := by
  obtain ⟨d, hu, hd⟩ := isSh_spec hT h
  rcases hd with hd | ⟨hd, _⟩
  · cases d <;> first | exact absurd (show false = true from hd) (by decide) | exact hu
  · cases hd

theorem q_slice {t : TypeId} {x : Operand} {lo hi mx : Option Operand} (hT : TOk P T) (ho : o.op = .slice t x lo hi mx) (h : vcOp P T yl o fr H al K) (hS : Sat y n fr a) : QOk P y o a H al K := by
  simp only [vcOp, ho] at h
  split at h <;> try exact h.elim
  rename_i xv hx
  have hcx := ev_eval hS hx
  unfold vcSlice at h
  split at h <;> try exact h.elim
  · rename_i te p len cap lo' hi' hte hlo hhi hmx
    split at h <;> try exact h.elim
    rename_i e hd
    split at h <;> try exact h.elim
    rename_i te' hte'
    obtain ⟨_, _, ti, d, hti, hu, hsz, _, hh⟩ := hT _ _ hte
    rw [hd] at hh
    obtain ⟨_, rfl, _⟩ := hh
    obtain ⟨i2, hi2, hs2, _⟩ := (hT _ _ hte').size
    have e3 := opI_none hmx
    subst e3
    obtain ⟨j, k, hr, h⟩ := BND_run (P := P) (isS := true) hS hlo hhi h
    refine ⟨_, fun w => ?_, h⟩
    simp [execOp, ho, hcx, avV, Instr.sliceAt, run_underlying hu, Instr.slice, hr, run_sizeOf hi2, hs2, movA_eq]
  · rename_i te p len cap lo' hv mv hte hlo hhi hmx
    split at h <;> try exact h.elim
    rename_i e hd
    split at h <;> try exact h.elim
    rename_i te' hte'
    obtain ⟨_, _, ti, d, hti, hu, hsz, _, hh⟩ := hT _ _ hte
    rw [hd] at hh
    obtain ⟨_, rfl, _⟩ := hh
    obtain ⟨i2, hi2, hs2, _⟩ := (hT _ _ hte').size
    obtain ⟨m', rfl, hm', h⟩ := h
    obtain ⟨km, hmx'⟩ := opI_some hS hmx
    obtain ⟨j, k, hr, h⟩ := BND_run3 (P := P) (cap := cap) hS hlo hhi hmx' hm' h
    refine ⟨_, fun w => ?_, h⟩
    simp [execOp, ho, hcx, avV, Instr.sliceAt, run_underlying hu, Instr.slice, hr, run_sizeOf hi2, hs2, movA_eq]
  · rename_i te s lo' hi' hte hlo hhi hmx
    cases hs : isSh T t .str with
    | false => rw [hs] at h; exact h.elim
    | true =>
      rw [hs] at h
      simp only [cond_true] at h
      have hu' := isSh_str hT hs
      have e3 := opI_none hmx
      subst e3
      obtain ⟨j, k, hr, h⟩ := BND_run (P := P) (isS := false) hS hlo hhi h
      refine ⟨_, fun w => ?_, h⟩
      simp [execOp, ho, hcx, avV, Instr.sliceAt, run_underlying hu', Instr.slice, hr]
  · rename_i te b off lo' hi' hte hlo hhi hmx
    split at h <;> try exact h.elim
    rename_i m e hd
    split at h <;> try exact h.elim
    rename_i te' hte'
    obtain ⟨_, _, ti, d, hti, hu, hsz, _, hh⟩ := hT _ _ hte
    rw [hd] at hh
    obtain ⟨_, rfl⟩ := hh
    obtain ⟨i2, hi2, hs2, _⟩ := (hT _ _ hte').size
    have e3 := opI_none hmx
    subst e3
    obtain ⟨j, k, hr, h⟩ := BND_run (P := P) (isS := false) hS hlo hhi h
    refine ⟨_, fun w => ?_, h⟩
    have hmv := movA_eq (some ⟨b, off, none⟩) j te'.size m
    simp [execOp, ho, hcx, avV, Instr.sliceAt, run_underlying hu, Instr.sureAddr, hr, run_sizeOf hi2, hs2]
    rw [← hmv]
    split <;> rfl

theorem q_field {t : TypeId} {x : Operand} {f : Nat} (hT : TOk P T) (ho : o.op = .field t x f) (h : vcOp P T yl o fr H al K) (hS : Sat y n fr a) : QOk P y o a H al K := by
  simp only [vcOp, ho] at h
  split at h <;> try exact h.elim
  rename_i cs te hx hte
  split at h <;> try exact h.elim
  rename_i fs hfs
  split at h <;> try exact h.elim
  rename_i off ft hf
  split at h <;> try exact h.elim
  rename_i te' hte'
  split at h <;> try exact h.elim
  rename_i v hv
  have hc := ev_eval hS hx
  obtain ⟨_, _, i, d, hi, hu, _, _, hh⟩ := hT _ _ hte
  rw [hfs] at hh
  obtain ⟨_, _, _, fields, rfl, hfl, _, _⟩ := hh
  have hf' : ∃ fd, fields[f]? = some fd ∧ fd.offset = off ∧ fd.type = ft := by
    rw [← hfl] at hf
    simp only [List.getElem?_map, Array.getElem?_toList, Option.map_eq_some_iff] at hf
    obtain ⟨fd, h1, h2⟩ := hf
    exact ⟨fd, h1, by cases h2; exact ⟨rfl, rfl⟩⟩
  obtain ⟨fd, h1, rfl, rfl⟩ := hf'
  have hp := fun w : World => run_part (w := w) (hT _ _ hte') hv
  have e1 : (⟨cs.toList⟩ : Array Value) = cs := by simp
  rw [e1] at hp
  exact ⟨_, fun w => by simp [execOp, ho, hc, avV, Instr.field, run_underlying hu, h1, asAgg, hp], h⟩

theorem q_index {t : TypeId} {x z : Operand} (hT : TOk P T) (ho : o.op = .index t x z) (h : vcOp P T yl o fr H al K) (hS : Sat y n fr a) : QOk P y o a H al K := by
  simp only [vcOp, ho] at h
  split at h <;> try exact h.elim
  rename_i s k iv hx hz
  have hcx := ev_eval hS hx
  have hcz := ev_eval hS hz
  cases hs : isSh T t .str with
  | false => rw [hs] at h; exact h.elim
  | true =>
    rw [hs] at h
    have hu' := isSh_str hT hs
    obtain ⟨j, rfl, hj, h⟩ := h
    refine ⟨_, fun w => ?_, h⟩
    have hb : s[j]? = some (s.data.toList.getD j 0) := by
      have hj' : j < s.data.toList.length := by simpa using hj
      have : s[j]? = some s[j] := by simp [hj]
      rw [this, List.getD_eq_getElem?_getD, List.getElem?_eq_getElem hj']
      rfl
    simp [execOp, ho, hcx, hcz, avV, Instr.index, asIntOf, run_underlying hu', hb]

theorem q_extract {x : Operand} {i : Nat} (ho : o.op = .extract x i) (h : vcOp P T yl o fr H al K) (hS : Sat y n fr a) : QOk P y o a H al K := by
  simp only [vcOp, ho] at h
  split at h <;> try exact h.elim
  rename_i vs hx
  split at h <;> try exact h.elim
  rename_i v hv
  have hc := ev_eval hS hx
  rw [Array.getElem?_toList] at hv
  exact ⟨_, fun w => by simp [execOp, ho, hc, avV, Instr.extract, hv], h⟩

theorem q_makeFunc {fn : Fn} {f c : Array Operand} (ho : o.op = .makeFunc fn f c) (h : vcOp P T yl o fr H al K) (hS : Sat y n fr a) : QOk P y o a H al K := by
  simp only [vcOp, ho] at h
  split at h <;> try exact h.elim
  rename_i fs cs hf hc
  exact ⟨_, fun w => by simp [execOp, ho, avV, Instr.makeFunc, evsA_eval hS hf, evsA_eval hS hc], h⟩

theorem q_move {x : Operand} (ho : o.op = .move x ∨ o.op = .assign x) (h : vcOp P T yl o fr H al K) (hS : Sat y n fr a) : QOk P y o a H al K := by
  rcases ho with ho | ho
  all_goals
    simp only [vcOp, ho] at h
    split at h <;> try exact h.elim
    rename_i v hv
    exact ⟨v, fun w => by simp [execOp, ho, evA_eval hS hv], h⟩

theorem vcLen_run {t ty : TypeId} {ts : List TypeId} {x : Value} {xs : List Value} {F : Value → Prop} (hT : TOk P T) (h : vcLen T t x F) :
    ∃ v, (∀ w, (Builtin.len_ ⟨t :: ts⟩ ty ⟨x :: xs⟩).run P w = .ok v w) ∧ F v := by
  unfold vcLen at h
  split at h <;> try exact h.elim
  · rename_i te p l c hte
    split at h <;> try exact h.elim
    rename_i e hd
    obtain ⟨_, _, ti, d, hti, hu, hsz, _, hh⟩ := hT _ _ hte
    rw [hd] at hh
    obtain ⟨_, rfl, _⟩ := hh
    exact ⟨_, fun w => by simp [Builtin.len_, run_underlying hu, goInt], h⟩
  · rename_i te s hte
    cases hs : isSh T t .str with
    | false => rw [hs] at h; exact h.elim
    | true =>
      rw [hs] at h
      have hu' := isSh_str hT hs
      exact ⟨_, fun w => by simp [Builtin.len_, run_underlying hu', goInt], h⟩
  · rename_i te _ hte _ _
    split at h <;> try exact h.elim
    rename_i m e hd
    obtain ⟨_, _, ti, d, hti, hu, hsz, _, hh⟩ := hT _ _ hte
    rw [hd] at hh
    obtain ⟨_, rfl⟩ := hh
    exact ⟨_, fun w => by simp [Builtin.len_, run_underlying hu, goInt], h⟩

theorem foldI_min {k : IntKind} : ∀ {l : List Value} {b c : Int}, foldI min b l = some c → (l.foldlM Builtin.min2 (.int k b)).run P w = .ok (.int k c) w
  | [], b, c, h => by simp only [foldI, Option.some.injEq] at h; subst h; simp
  | v :: l, b, c, h => by
    cases v <;> simp only [foldI, reduceCtorEq] at h
    rename_i k' d
    have e : (if d < b then d else b) = min b d := by split <;> omega
    simp only [List.foldlM_cons, Builtin.min2, e, Sem.run_bind, Sem.run_pure, Result.andThen_ok]
    exact foldI_min h

theorem foldI_max {k : IntKind} : ∀ {l : List Value} {b c : Int}, foldI max b l = some c → (l.foldlM Builtin.max2 (.int k b)).run P w = .ok (.int k c) w
  | [], b, c, h => by simp only [foldI, Option.some.injEq] at h; subst h; simp
  | v :: l, b, c, h => by
    cases v <;> simp only [foldI, reduceCtorEq] at h
    rename_i k' d
    have e : (if d > b then d else b) = max b d := by split <;> omega
    simp only [List.foldlM_cons, Builtin.max2, e, Sem.run_bind, Sem.run_pure, Result.andThen_ok]
    exact foldI_max h

theorem ex_builtin {c : Call} {b : Builtin} {args : List Value} {v : Value} {w' : World} (ho : o.op = .call c) (hc : c.callee = .builtin b) (ha : c.args.map a.eval = ⟨args⟩)
    (hr : ∀ cs, (Go.builtin b c.argTypes o.type cs ⟨args⟩).run P w = .ok (.value v) w') : (execOp a.eval o).run P w = .ok (.value v) w' := by
  simp only [execOp, ho, resolve, hc, ha]
  simp only [pure_bind, invoke]
  exact hr _

theorem q_builtin {c : Call} {b : Builtin} (hT : TOk P T) (ho : o.op = .call c) (hc : c.callee = .builtin b) (hb : b = .len ∨ b = .cap ∨ b = .min ∨ b = .max) (h : vcOp P T yl o fr H al K) (hS : Sat y n fr a) : QOk P y o a H al K := by
  simp only [vcOp, ho, hc] at h
  split at h <;> try exact h.elim
  rename_i args hargs
  have ha := evsA_eval hS hargs
  have hts : c.argTypes = ⟨c.argTypes.toList⟩ := by simp
  generalize c.argTypes.toList = ts at h hts
  rcases hb with rfl | rfl | rfl | rfl
  · simp only [vcBuiltin, bLen] at h
    split at h <;> try exact h.elim
    rename_i t r x xs
    obtain ⟨v, hv, h⟩ := vcLen_run (P := P) (ty := o.type) (ts := r) (xs := xs) hT h
    exact ⟨_, fun w => ex_builtin ho hc ha (fun cs => by simp only [builtin, hts, Sem.run_bind, hv]; rfl), h⟩
  · simp only [vcBuiltin, bCap] at h
    split at h <;> try exact h.elim
    split at h <;> try exact h.elim
    rename_i te hte
    split at h <;> try exact h.elim
    rename_i e hd
    obtain ⟨_, _, ti, d, hti, hu, hsz, _, hh⟩ := hT _ _ hte
    rw [hd] at hh
    obtain ⟨_, rfl, _⟩ := hh
    exact ⟨_, fun w => ex_builtin ho hc ha (fun cs => by simp [builtin, hts, Builtin.cap_, run_underlying hu, goInt]; rfl), h⟩
  · simp only [vcBuiltin, bFold] at h
    split at h <;> try exact h.elim
    split at h <;> try exact h.elim
    rename_i m hm
    exact ⟨_, fun w => ex_builtin ho hc ha (fun cs => by simp only [builtin, Builtin.min_, Sem.run_bind]; rw [foldI_min hm]; rfl), h⟩
  · simp only [vcBuiltin, bFold] at h
    split at h <;> try exact h.elim
    split at h <;> try exact h.elim
    rename_i m hm
    exact ⟨_, fun w => ex_builtin ho hc ha (fun cs => by simp only [builtin, Builtin.max_, Sem.run_bind]; rw [foldI_max hm]; rfl), h⟩

/-- Every quiet operation. -/
theorem q_any (hT : TOk P T) (hq : quietOp o.op = true) (h : vcOp P T yl o fr H al K) (hS : Sat y n fr a) : QAny P T y fr o a H al K := by
  have nl : ∀ {X}, o.op = X → (∀ t x, X ≠ .load t x) → ∀ t x, o.op ≠ .load t x := fun e h t x e' => h t x (e.symm.trans e')
  cases ho : o.op <;> rw [ho] at hq <;> try (cases hq; done)
  case move => exact (q_move (.inl ho) h hS).any (nl ho (by simp))
  case assign => exact (q_move (.inr ho) h hS).any (nl ho (by simp))
  case pick => exact (q_pick ho h hS).any (nl ho (by simp))
  case nilCheck => exact (q_nilCheck ho h hS).any (nl ho (by simp))
  case fieldAddr => exact (q_fieldAddr hT ho h hS).any (nl ho (by simp))
  case indexAddr => exact (q_indexAddr hT ho h hS).any (nl ho (by simp))
  case load => exact q_load hT ho h hS
  case binOp => exact (q_binOp hT ho h hS).any (nl ho (by simp))
  case unOp => exact (q_unOp ho h hS).any (nl ho (by simp))
  case slice => exact (q_slice hT ho h hS).any (nl ho (by simp))
  case field => exact (q_field hT ho h hS).any (nl ho (by simp))
  case index => exact (q_index hT ho h hS).any (nl ho (by simp))
  case extract => exact (q_extract ho h hS).any (nl ho (by simp))
  case makeFunc => exact (q_makeFunc ho h hS).any (nl ho (by simp))
  case call c =>
    cases hc : c.callee with
    | builtin b =>
      refine (q_builtin hT ho hc ?_ h hS).any (nl ho (by simp))
      obtain ⟨ce, ar, at'⟩ := c
      simp only at hc
      subst hc
      cases b <;> first | (cases hq; done) | simp
    | value f => obtain ⟨ce, ar, at'⟩ := c; simp only at hc; subst hc; cases hq
    | invoke f m => obtain ⟨ce, ar, at'⟩ := c; simp only at hc; subst hc; cases hq

theorem q_all (hT : TOk P T) (hq : quietOp o.op = true) (h : vcOp P T yl o fr (hp w) al K) (hS : Sat y n fr a) :
    ∃ x, (execOp a.eval o).run P w = .ok (.value (avV y x)) w ∧ K x (hp w) al :=
  let ⟨x, h1, h2, h3⟩ := q_any hT hq h hS
  ⟨x, h2 w h1, h3⟩

end
end Go.V
