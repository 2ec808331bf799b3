/- The reckoner's steps on operations that only look: what the model does there. -/
import Derived.Test.YteijgmmjgbgffaaDoorVcOp
import Derived.Laws.BytesString
import Derived.Laws.Cover3
import Derived.Laws.StructEq
namespace Go.V
set_option linter.unusedSectionVars false
variable [Sp]

section
variable {P : Program} {T : Tab} {yl : Option YG} {y : Value} {n : Nat} {fr : Fr} {a : Act} {w : World} {o : Oper} {al : Al} {H : Hp} {K : AV → Hp → Al → Prop}

/-- What a quiet operation comes to. -/
abbrev QOk (P : Program) (y : Value) (o : Oper) (a : Act) (H : Hp) (al : Al) (K : AV → Hp → Al → Prop) : Prop :=
  ∃ x, (∀ w, (execOp a.eval o).run P w = .ok (.value (avV y x)) w) ∧ K x H al

/-- The cells that a load has read. -/
def HoldsH (H : Hp) (R : List (Nat × Nat × Value)) : Prop := ∀ r ∈ R, rd H r.1 r.2.1 = some r.2.2
def cellsFrom (b : Nat) : Nat → List Value → List (Nat × Nat × Value)
  | _, [] => []
  | o, v :: vs => (b, o, v) :: cellsFrom b (o + 1) vs
def ldCells (T : Tab) (fr : Fr) (o : Oper) (x : AV) : List (Nat × Nat × Value) :=
  match o.op with
  | .load t p => match T t, ev fr p, x with
    | some te, some (.pointer (some ⟨b, off, none⟩)), .v v => match te.d with
      | .st _ => cellsFrom b off (cellsL v)
      | _ => [(b, off, v)]
    | _, _, _ => []
  | _ => []
/-- What any operation that looks comes to: what it has read, it reads wherever that stands. -/
def QAny (P : Program) (T : Tab) (y : Value) (fr : Fr) (o : Oper) (a : Act) (H : Hp) (al : Al) (K : AV → Hp → Al → Prop) : Prop :=
  ∃ x, HoldsH H (ldCells T fr o x) ∧ (∀ w, HoldsH (hp w) (ldCells T fr o x) → (execOp a.eval o).run P w = .ok (.value (avV y x)) w) ∧ K x H al

theorem bc_elim {b : Bool} {A B : Prop} (h : bc b A B) : (b = true ∧ A) ∨ (b = false ∧ B) := by cases b <;> simp_all [bc]

theorem q_pick {c x z : Operand} (ho : o.op = .pick c x z) (h : vcOp P T yl o fr H al K) (hS : Sat y n fr a) : QOk P y o a H al K := by
  simp only [vcOp, ho] at h
  split at h
  · rename_i t ht
    have hc := ev_eval hS ht
    rcases bc_elim h with ⟨rfl, h'⟩ | ⟨rfl, h'⟩
    all_goals
      clear h
      split at h' <;> try exact h'.elim
      rename_i v hv
      exact ⟨v, fun w => by simp [execOp, ho, hc, asBool, evA_eval hS hv], h'⟩
  · exact h.elim

theorem NIL_elim {p : Option Addr} {F : Nat → Nat → Prop} (h : NIL p F) : ∃ b o, p = some ⟨b, o, none⟩ ∧ F b o := by
  unfold NIL at h
  split at h
  · exact ⟨_, _, rfl, h⟩
  · exact h.elim

theorem q_nilCheck {x : Operand} (ho : o.op = .nilCheck x) (h : vcOp P T yl o fr H al K) (hS : Sat y n fr a) : QOk P y o a H al K := by
  simp only [vcOp, ho] at h
  split at h
  · rename_i p hp'
    have hc := ev_eval hS hp'
    obtain ⟨b, off, rfl, h⟩ := NIL_elim h
    exact ⟨_, fun w => by simp [execOp, ho, hc, avV], h⟩
  · exact h.elim

theorem q_fieldAddr {s : TypeId} {x : Operand} {f : Nat} (hT : TOk P T) (ho : o.op = .fieldAddr s x f) (h : vcOp P T yl o fr H al K) (hS : Sat y n fr a) : QOk P y o a H al K := by
  simp only [vcOp, ho] at h
  split at h <;> try exact h.elim
  rename_i b off te hx hte
  split at h <;> try exact h.elim
  rename_i fs hfs
  split at h <;> try exact h.elim
  rename_i off' ft hf
  split at h <;> try exact h.elim
  rename_i te' hte'
  cases hz : Nat.beq te'.size 0 with
  | true => rw [hz] at h; exact h.elim
  | false =>
    rw [hz] at h
    simp only [cond_false] at h
    have hc := ev_eval hS hx
    obtain ⟨_, _, i, d, hi, hu, _, _, hh⟩ := hT _ _ hte
    rw [hfs] at hh
    obtain ⟨_, _, _, fields, rfl, hfl, _, _⟩ := hh
    have hf' : ∃ fd, fields[f]? = some fd ∧ fd.offset = off' ∧ fd.type = ft := by
      rw [← hfl] at hf
      simp only [List.getElem?_map, Array.getElem?_toList, Option.map_eq_some_iff] at hf
      obtain ⟨fd, h1, h2⟩ := hf
      exact ⟨fd, h1, by cases h2; exact ⟨rfl, rfl⟩⟩
    obtain ⟨fd, h1, rfl, rfl⟩ := hf'
    obtain ⟨j, hj1, hj2, _⟩ := (hT _ _ hte').size
    have hj3 : j.size ≠ 0 := fun e => by rw [← hj2, e] at hz; cases hz
    exact ⟨_, fun w => by simp [execOp, ho, hc, avV, Instr.fieldAt, run_underlying hu, h1, Instr.sureAddr, run_fieldPlace hj1 hj3], h⟩

theorem IDX_elim {i : Int} {n : Nat} {F : Nat → Prop} (h : IDX i n F) : ∃ k : Nat, i = (k : Int) ∧ k < n ∧ F k := h

theorem q_indexAddr {t : TypeId} {x z : Operand} (hT : TOk P T) (ho : o.op = .indexAddr t x z) (h : vcOp P T yl o fr H al K) (hS : Sat y n fr a) : QOk P y o a H al K := by
  simp only [vcOp, ho] at h
  split at h <;> try exact h.elim
  rename_i k iv xv te hi hx hte
  have hci := ev_eval hS hi
  have hcx := ev_eval hS hx
  split at h <;> try exact h.elim
  · rename_i m e b off hd
    split at h <;> try exact h.elim
    rename_i te' hte'
    obtain ⟨k', rfl, hk, h⟩ := h
    obtain ⟨_, _, ti, d, hti, hu, _, _, hh⟩ := hT _ _ hte
    rw [hd] at hh
    obtain ⟨_, rfl⟩ := hh
    obtain ⟨j, hj1, hj2, _⟩ := (hT _ _ hte').size
    refine ⟨_, fun w => ?_, h⟩
    simp [execOp, ho, hci, hcx, avV, Instr.indexAt, asIntOf, run_underlying hu, Instr.sureAddr, run_sizeOf hj1, hj2, add_off, mulS_eq, hk]
  · rename_i e p len cap hd
    split at h <;> try exact h.elim
    rename_i te' hte'
    obtain ⟨k', rfl, hk, h⟩ := h
    obtain ⟨b, off, rfl, h⟩ := NIL_elim h
    obtain ⟨_, _, ti, d, hti, hu, _, _, hh⟩ := hT _ _ hte
    rw [hd] at hh
    obtain ⟨_, rfl, _⟩ := hh
    obtain ⟨j, hj1, hj2, _⟩ := (hT _ _ hte').size
    refine ⟨_, fun w => ?_, h⟩
    simp [execOp, ho, hci, hcx, avV, Instr.indexAt, asIntOf, run_underlying hu, Instr.sureAddr, run_sizeOf hj1, hj2, add_off, mulS_eq, hk]

theorem cellsFrom_spec (H : Hp) (b : Nat) : ∀ (vs : List Value) (o : Nat), HoldsH H (cellsFrom b o vs) ↔ ∀ i v, vs[i]? = some v → rd H b (o + i) = some v
  | [], o => ⟨fun _ i v e => by simp at e, fun _ r hr => by cases hr⟩
  | x :: vs, o => by
    have ih := cellsFrom_spec H b vs (o + 1)
    constructor
    · intro h i v e
      cases i with
      | zero => simp at e; subst e; exact h (b, o, x) (by simp [cellsFrom])
      | succ i =>
        simp at e
        have := ih.1 (fun r hr => h r (by simp [cellsFrom, hr])) i v e
        rwa [show o + (i + 1) = o + 1 + i by omega]
    · intro h r hr
      rcases List.mem_cons.1 hr with rfl | hr
      · exact h 0 x rfl
      · exact ih.2 (fun i v e => by rw [show o + 1 + i = o + (i + 1) by omega]; exact h (i + 1) v e) r hr
theorem q_load {t : TypeId} {x : Operand} (hT : TOk P T) (ho : o.op = .load t x) (h : vcOp P T yl o fr H al K) (hS : Sat y n fr a) : QAny P T y fr o a H al K := by
  simp only [vcOp, ho] at h
  split at h <;> try exact h.elim
  rename_i b off te hx hte
  have hcx := ev_eval hS hx
  obtain ⟨_, _, ti, d, hti, hu, hsz, _, hh⟩ := hT _ _ hte
  split at h <;> try exact h.elim
  · rename_i hd
    split at h <;> try exact h.elim
    rename_i s hs
    rw [hd] at hh
    obtain ⟨_, s', z, hs', hsd, _⟩ := hh
    obtain ⟨v, hv, h⟩ := ldSh_elim h
    refine ⟨_, ?_, fun w hw => ?_, h⟩
    · simp only [ldCells, ho, hx, hte, hd]
      intro r hr
      rw [List.mem_singleton.1 hr]; exact hv
    · simp only [ldCells, ho, hx, hte, hd] at hw
      simp [execOp, ho, hcx, avV, run_load_sc (run_isAgg_sc hu hsd) (hw _ (List.mem_singleton.2 rfl))]
  · rename_i e hd
    split at h <;> try exact h.elim
    rename_i s hs
    rw [hd] at hh
    obtain ⟨_, rfl, _⟩ := hh
    obtain ⟨v, hv, h⟩ := ldSh_elim h
    refine ⟨_, ?_, fun w hw => ?_, h⟩
    · simp only [ldCells, ho, hx, hte, hd]
      intro r hr
      rw [List.mem_singleton.1 hr]; exact hv
    · simp only [ldCells, ho, hx, hte, hd] at hw
      have ha : (isAgg t).run P w = .ok false w := by simp [isAgg, run_underlying hu]
      simp [execOp, ho, hcx, avV, run_load_sc ha (hw _ (List.mem_singleton.2 rfl))]
  · rename_i fs hd
    rw [hd] at hh
    obtain ⟨_, _, hl, fields, rfl, _⟩ := hh
    obtain ⟨vs, hlen, hr, h⟩ := ldAgg_elim h
    refine ⟨_, ?_, fun w hw => ?_, h⟩
    · simp only [ldCells, ho, hx, hte, hd]
      exact (cellsFrom_spec _ _ _ _).2 hr
    · simp only [ldCells, ho, hx, hte, hd] at hw
      have hw : HoldsH (hp w) (cellsFrom b off vs) := hw
      simp [execOp, ho, hcx, avV, run_load_st hu hti (by omega) ((cellsFrom_spec _ _ _ _).1 hw)]

theorem QOk.any (h : QOk P y o a H al K) (hl : ∀ t x, o.op ≠ .load t x) : QAny P T y fr o a H al K := by
  obtain ⟨x, h1, h2⟩ := h
  have e : ldCells T fr o x = [] := by
    unfold ldCells
    split
    · rename_i t p ho; exact absurd ho (hl t p)
    · rfl
  refine ⟨x, ?_, fun w _ => h1 w, h2⟩
  rw [e]; intro r hr; cases hr

theorem run_part {te : TE} {t : TypeId} {cs : List Value} {off : Nat} {v : Value} (ht : TSpec P t te) (h : partL te cs off = some v) :
    (part t ⟨cs⟩ off).run P w = .ok v w := by
  obtain ⟨_, _, ti, d, hti, hu, hsz, _, hh⟩ := ht
  unfold partL at h
  cases hd : te.d with
  | sc =>
    rw [hd] at h hh
    obtain ⟨_, s', z, hs', hsd, _⟩ := hh
    simp only at h
    simp [part, run_isAgg_sc hu hsd, h]
  | sl e =>
    rw [hd] at h hh
    obtain ⟨_, rfl, _⟩ := hh
    have ha : (isAgg t).run P w = .ok false w := by simp [isAgg, run_underlying hu]
    simp only at h
    simp [part, ha, h]
  | st fs =>
    rw [hd] at h hh
    obtain ⟨_, _, hl, fields, rfl, _⟩ := hh
    have ha : (isAgg t).run P w = .ok true w := by simp [isAgg, run_underlying hu]
    simp only [Option.some.injEq] at h
    subst h
    simp only [part, Sem.run_bind, ha, Result.andThen_ok, if_true, run_sizeOf hti, hsz, Sem.run_pure]
    congr 2
    apply Array.ext'
    simp
  | ar m e =>
    rw [hd] at h hh
    obtain ⟨_, rfl⟩ := hh
    have ha : (isAgg t).run P w = .ok true w := by simp [isAgg, run_underlying hu]
    simp only [Option.some.injEq] at h
    subst h
    simp only [part, Sem.run_bind, ha, Result.andThen_ok, if_true, run_sizeOf hti, hsz, Sem.run_pure]
    congr 2
    apply Array.ext'
    simp
  | tup ts => rw [hd] at h; cases h

theorem toList_inj (a b : ByteArray) : a.toList = b.toList ↔ a = b := by
  refine ⟨fun h => ?_, fun h => h ▸ rfl⟩
  rw [ByteArray.toList_eq, ByteArray.toList_eq] at h
  obtain ⟨⟨x⟩⟩ := a
  obtain ⟨⟨y⟩⟩ := b
  have : x = y := h
  rw [this]

theorem bytes_beq (a b : ByteArray) : (a.toList == b.toList) = decide (a = b) := by
  rw [Bool.eq_iff_iff]
  simp [toList_inj]

theorem run_eqVal (hT : TOk P T) : ∀ (d D : Nat) (t : TypeId) (x z : Value) (r : Bool), d ≤ D → eqVal T d t x z = some r → (Op.equalIn D t x z).run P w = .ok r w
  | 0, _, _, _, _, _, _, h => by simp [eqVal] at h
  | d + 1, 0, _, _, _, _, hD, _ => by omega
  | d + 1, D + 1, t, x, z, r, hD, h => by
    simp only [eqVal] at h
    split at h <;> try (cases h; done)
    rename_i te hte
    obtain ⟨_, _, ti, ds, hti, hu, hsz, _, hh⟩ := hT _ _ hte
    split at h <;> try (cases h; done)
    · rename_i k0 k a k' b hd hs
      split at h <;> try (cases h; done)
      rename_i hk _
      subst hk
      simp only [Option.some.injEq] at h
      subst h
      rw [hd] at hh
      obtain ⟨_, s', z', hs', hsd, _⟩ := hh
      rw [hs] at hs'
      cases hs'
      cases ds <;> first | exact absurd (show false = true from hsd) (by decide) | skip
      rw [run_equalIn_int w D t k _ a b hu]
      rfl
    · rename_i a b hd hs
      simp only [Option.some.injEq] at h
      subst h
      rw [hd] at hh
      obtain ⟨_, s', z', hs', hsd, _⟩ := hh
      rw [hs] at hs'
      cases hs'
      cases ds <;> first | exact absurd (show false = true from hsd) (by decide) | skip
      rw [run_equalIn_bool' w D t a b hu]
      rfl
    · rename_i a b hd hs
      simp only [Option.some.injEq] at h
      subst h
      rw [hd] at hh
      obtain ⟨_, s', z', hs', hsd, _⟩ := hh
      rw [hs] at hs'
      cases hs'
      cases ds <;> first | exact absurd (show false = true from hsd) (by decide) | skip
      rw [run_equalIn_string w D t a b hu, bytes_beq]
    · rename_i fs xs zs hd
      rw [hd] at hh
      obtain ⟨_, _, hl, fields, rfl, hfl, hstood, _, hnm⟩ := hh
      have hfo : P.fieldsOf t = fields := by simp [Program.fieldsOf, hu]
      rw [run_equalIn_struct w D t xs zs (by rw [hfo]; exact hu) hstood, hfo]
      clear hfo hu hl hti
      generalize hfd : fields.toList = fds at hfl hnm
      clear hfd hd
      induction fds generalizing fs r with
      | nil =>
        simp only [List.map_nil] at hfl
        subst hfl
        simp only [eqFs, Option.some.injEq] at h
        subst h
        simp [Op.eqFields]
      | cons f fds ih =>
        simp only [List.map_cons] at hfl
        subst hfl
        simp only [eqFs] at h
        split at h <;> try (cases h; done)
        rename_i te1 hte1
        split at h <;> try (cases h; done)
        rename_i va vb hva hvb
        split at h <;> try (cases h; done)
        rename_i u hu'
        have hpa := run_part (w := w) (hT _ _ hte1) hva
        have hpb := run_part (w := w) (hT _ _ hte1) hvb
        have heq := run_eqVal hT d D f.type va vb u (by omega) hu'
        have hn := hnm f (by simp)
        have e1 : (⟨xs.toList⟩ : Array Value) = xs := by simp
        have e2 : (⟨zs.toList⟩ : Array Value) = zs := by simp
        rw [e1] at hpa
        rw [e2] at hpb
        simp only [Op.eqFields, if_pos hn, Sem.run_bind, hpa, hpb, Result.andThen_ok, heq, Sem.run_ite]
        split at h
        · rename_i hnil
          simp only [Option.some.injEq] at h
          subst h
          have : fds = [] := by simpa using hnil
          subst this
          cases u <;> simp [Op.eqFields]
        · rename_i hne
          split at h <;> try (cases h; done)
          rename_i v hv
          simp only [Option.some.injEq] at h
          subst h
          have := ih _ _ hv rfl (fun g hg => hnm g (by simp [hg]))
          cases u
          · simp
          · simp [this]


omit [Sp] in
theorem wrap_in (k : IntKind) {e : Int} (h : k.min ≤ e ∧ e ≤ k.max) : k.wrap e = e := by
  obtain ⟨h1, h2⟩ := h
  cases k <;> simp [IntKind.min, IntKind.max, IntKind.signed, IntKind.bits] at h1 h2 <;> simp [IntKind.wrap, IntKind.signed, IntKind.bits] <;> omega

theorem ARI_run {k : IntKind} {e : Int} {F : Int → Prop} (h : ARI k e F) : F (k.wrap e) := by
  unfold ARI at h
  split at h
  · exact h
  · rw [wrap_in _ h.1]; exact h.2

theorem isSh_spec {t : TypeId} {s : Sh} (hT : TOk P T) (h : isSh T t s = true) : ∃ d, P.underlying t = some d ∧ (shD s d = true ∨ (s = .slice ∧ ∃ e, d = .slice e)) := by
  unfold isSh at h
  split at h <;> try (cases h; done)
  rename_i te hte
  obtain ⟨_, _, ti, d, hti, hu, hsz, _, hh⟩ := hT _ _ hte
  split at h <;> try (cases h; done)
  · rename_i x hd hs'
    have := of_decide_eq_true h
    subst this
    rw [hd] at hh
    obtain ⟨_, s, z, hs, hsd, _⟩ := hh
    rw [hs] at hs'
    cases hs'
    exact ⟨d, hu, .inl hsd⟩
  · rename_i e x hd hs'
    have := of_decide_eq_true h
    subst this
    rw [hd] at hh
    obtain ⟨_, rfl, hs, _⟩ := hh
    rw [hs] at hs'
    cases hs'
    exact ⟨_, hu, .inr ⟨rfl, e, rfl⟩⟩

theorem equalIn_ptr (d : Nat) {t e : TypeId} (p : Option Addr) (h : P.underlying t = some (.pointer e)) : (Op.equalIn (d + 1) t (.pointer p) (.pointer none)).run P w = .ok (decide (p = none)) w := by
  cases p <;> simp [Op.equalIn, run_underlying h]
theorem equalIn_unsafe (d : Nat) {t : TypeId} (p : Option Addr) (h : P.underlying t = some .unsafePointer) : (Op.equalIn (d + 1) t (.pointer p) (.pointer none)).run P w = .ok (decide (p = none)) w := by
  cases p <;> simp [Op.equalIn, run_underlying h, samePointer]
theorem equalIn_sl (d : Nat) {t e : TypeId} (p : Option Addr) (l c l' c' : Nat) (h : P.underlying t = some (.slice e)) : (Op.equalIn (d + 1) t (.slice p l c) (.slice none l' c')).run P w = .ok (decide (p = none)) w := by
  cases p <;> simp [Op.equalIn, run_underlying h]
theorem equalIn_map (d : Nat) {t k e : TypeId} (p : Option Nat) (h : P.underlying t = some (.map k e)) : (Op.equalIn (d + 1) t (.map p) (.map none)).run P w = .ok (decide (p = none)) w := by
  cases p <;> simp [Op.equalIn, run_underlying h]
theorem equalIn_bool (d : Nat) {t : TypeId} (a b : Bool) (h : P.underlying t = some .bool) : (Op.equalIn (d + 1) t (.bool a) (.bool b)).run P w = .ok (decide (a = b)) w := by
  rw [run_equalIn_bool' w d t a b h]; rfl

theorem vcBin_run {op : BinOp} {xt : TypeId} {u v : Value} {F : Value → Prop} (hT : TOk P T) (h : vcBin P T op xt u v F) :
    ∃ r, (∀ w x z, (eqGuard op xt x z u v).run P w = .ok () w) ∧ (∀ w, (binOp op xt u v).run P w = .ok r w) ∧ F r := by
  unfold vcBin at h
  split at h <;> try exact h.elim
  · -- integers
    rename_i k a k' b
    have hg : ∀ w x z, (eqGuard op xt x z (.int k a) (.int k' b)).run P w = .ok () w := fun w x z => by cases op <;> simp [eqGuard]
    split at h
    · exact ⟨_, hg, fun w => by simp [binOp, Op.shift, ishl, Int.not_lt.2 h.1], h.2⟩
    · exact ⟨_, hg, fun w => by simp [binOp, Op.shift, ishr, Int.not_lt.2 h.1], h.2⟩
    · split at h <;> try exact h.elim
      rename_i hn1 hn2 _ hk _
      subst hk
      cases op <;> simp only [ordI] at h <;> try exact absurd rfl (hn1)
      case add => exact ⟨_, hg, fun w => by simp [binOp, Op.intArith], ARI_run h⟩
      case sub => exact ⟨_, hg, fun w => by simp [binOp, Op.intArith], ARI_run h⟩
      case mul => exact ⟨_, hg, fun w => by simp [binOp, Op.intArith], ARI_run h⟩
      case quo => exact ⟨_, hg, fun w => by simp [binOp, Op.intDiv, h.1, wrap_in k h.2.1], h.2.2⟩
      case rem => exact ⟨_, hg, fun w => by simp [binOp, Op.intDiv, h.1], h.2⟩
      case and => exact ⟨_, hg, fun w => by simp [binOp, Op.intBits, iand], h⟩
      case or => exact ⟨_, hg, fun w => by simp [binOp, Op.intBits, ior], h⟩
      case xor => exact ⟨_, hg, fun w => by simp [binOp, Op.intBits, ixor], h⟩
      case andNot => exact ⟨_, hg, fun w => by simp [binOp, Op.intBits, inot], h⟩
      case eql => exact ⟨_, hg, fun w => by simp [binOp, Op.intCmp]; rfl, h⟩
      case neq => exact ⟨_, hg, fun w => by simp [binOp, Op.intCmp]; rw [Bool.eq_iff_iff]; simp, h⟩
      case lss => exact ⟨_, hg, fun w => by simp [binOp, Op.intCmp], h⟩
      case leq => exact ⟨_, hg, fun w => by simp [binOp, Op.intCmp], h⟩
      case gtr => exact ⟨_, hg, fun w => by simp [binOp, Op.intCmp], h⟩
      case geq => exact ⟨_, hg, fun w => by simp [binOp, Op.intCmp], h⟩
  · -- bools
    rename_i a b
    have hg : ∀ w x z, (eqGuard op xt x z (.bool a) (.bool b)).run P w = .ok () w := fun w x z => by cases op <;> simp [eqGuard]
    cases hs : isSh T xt .bool with
    | false => rw [hs] at h; exact h.elim
    | true =>
      rw [hs] at h
      obtain ⟨d, hu, hd⟩ := isSh_spec hT hs
      have hu' : P.underlying xt = some .bool := by
        rcases hd with hd | ⟨hd, _⟩
        · cases d <;> first | exact absurd (show false = true from hd) (by decide) | exact hu
        · cases hd
      have he : ∀ w, (Op.equal xt (.bool a) (.bool b)).run P w = .ok (decide (a = b)) w := fun w => equalIn_bool 9999 a b hu'
      cases op <;> simp only [cond_true] at h
      case eql => exact ⟨_, hg, fun w => by simp [binOp, he], h⟩
      case neq => exact ⟨_, hg, fun w => by simp [binOp, he], h⟩
      all_goals exact h.elim
  · -- strings
    rename_i a b
    have hg : ∀ w x z, (eqGuard op xt x z (.string a) (.string b)).run P w = .ok () w := fun w x z => by cases op <;> simp [eqGuard]
    cases op <;> simp only at h <;> try exact h.elim
    case eql => exact ⟨_, hg, fun w => by simp [binOp, Op.stringOp, bytes_beq], h⟩
    case neq => exact ⟨_, hg, fun w => by simp [binOp, Op.stringOp, bytes_beq], h⟩
    case add => exact ⟨_, hg, fun w => by simp only [binOp]; rw [run_string_add_sum (P := P) (w := w) a b (by omega)], h.2⟩
    case lss => exact ⟨_, hg, fun w => by simp [binOp, Op.stringOp], h⟩
    case gtr => exact ⟨_, hg, fun w => by simp [binOp, Op.stringOp, bytes_beq], h⟩
    case leq => exact ⟨_, hg, fun w => by simp [binOp, Op.stringOp, bytes_beq], h⟩
    case geq => exact ⟨_, hg, fun w => by simp [binOp, Op.stringOp], h⟩
  · -- pointers
    rename_i p q
    cases q with
    | some a' =>
      obtain ⟨r, hr, h⟩ := h
      exact ⟨_, fun w x z => by cases op <;> simp [eqGuard], hr, h⟩
    | none =>
    simp only [ptC] at h
    have hg : ∀ w x z, (eqGuard op xt x z (.pointer p) (.pointer none)).run P w = .ok () w := fun w x z => by cases op <;> simp [eqGuard]
    cases hs : isSh T xt .ptr with
    | false => rw [hs] at h; exact h.elim
    | true =>
      rw [hs] at h
      obtain ⟨d, hu, hd⟩ := isSh_spec hT hs
      have hu' : (∃ e, P.underlying xt = some (.pointer e)) ∨ P.underlying xt = some .unsafePointer := by
        rcases hd with hd | ⟨hd, _⟩
        · cases d <;> first | exact absurd (show false = true from hd) (by decide) | exact .inl ⟨_, hu⟩ | exact .inr hu
        · cases hd
      have he : ∀ w, (Op.equal xt (.pointer p) (.pointer none)).run P w = .ok (decide (p = none)) w := fun w => by
        rcases hu' with ⟨e, hu'⟩ | hu'
        · exact equalIn_ptr 9999 p hu'
        · exact equalIn_unsafe 9999 p hu'
      cases op <;> simp only [cond_true] at h
      case eql => exact ⟨_, hg, fun w => by simp [binOp, he], h⟩
      case neq => exact ⟨_, hg, fun w => by simp [binOp, he], h⟩
      all_goals exact h.elim
  · -- slices
    rename_i p l1 c1 l2 c2
    have hg : ∀ w x z, (eqGuard op xt x z (.slice p l1 c1) (.slice none l2 c2)).run P w = .ok () w := fun w x z => by cases op <;> simp [eqGuard]
    cases hs : isSh T xt .slice with
    | false => rw [hs] at h; exact h.elim
    | true =>
      rw [hs] at h
      obtain ⟨d, hu, hd⟩ := isSh_spec hT hs
      have hu' : ∃ e, P.underlying xt = some (.slice e) := by
        rcases hd with hd | ⟨_, e, rfl⟩
        · cases d <;> exact absurd (show false = true from hd) (by decide)
        · exact ⟨_, hu⟩
      obtain ⟨e, hu'⟩ := hu'
      have he : ∀ w, (Op.equal xt (.slice p l1 c1) (.slice none l2 c2)).run P w = .ok (decide (p = none)) w := fun w => equalIn_sl 9999 p _ _ _ _ hu'
      cases op <;> simp only [cond_true] at h
      case eql => exact ⟨_, hg, fun w => by simp [binOp, he], h⟩
      case neq => exact ⟨_, hg, fun w => by simp [binOp, he], h⟩
      all_goals exact h.elim
  · -- maps
    rename_i p
    have hg : ∀ w x z, (eqGuard op xt x z (.map p) (.map none)).run P w = .ok () w := fun w x z => by cases op <;> simp [eqGuard]
    cases hs : isSh T xt .map with
    | false => rw [hs] at h; exact h.elim
    | true =>
      rw [hs] at h
      obtain ⟨d, hu, hd⟩ := isSh_spec hT hs
      have hu' : ∃ k e, P.underlying xt = some (.map k e) := by
        rcases hd with hd | ⟨hd, _⟩
        · cases d <;> first | exact absurd (show false = true from hd) (by decide) | exact ⟨_, _, hu⟩
        · cases hd
      obtain ⟨k, e, hu'⟩ := hu'
      have he : ∀ w, (Op.equal xt (.map p) (.map none)).run P w = .ok (decide (p = none)) w := fun w => equalIn_map 9999 p hu'
      cases op <;> simp only [cond_true] at h
      case eql => exact ⟨_, hg, fun w => by simp [binOp, he], h⟩
      case neq => exact ⟨_, hg, fun w => by simp [binOp, he], h⟩
      all_goals exact h.elim
  · -- structs
    rename_i xs ys
    have key : ∀ r, eqVal T 8 xt (.agg xs) (.agg ys) = some r → (∀ w x z, (eqGuard op xt x z (.agg xs) (.agg ys)).run P w = .ok () w) ∧ (∀ w, (Op.equal xt (.agg xs) (.agg ys)).run P w = .ok r w) := by
      intro r hr
      refine ⟨fun w x z => ?_, fun w => run_eqVal hT 8 10000 xt _ _ r (by omega) hr⟩
      simp only [eqVal] at hr
      split at hr <;> try (cases hr; done)
      rename_i te hte
      obtain ⟨_, _, ti, d, hti, hu, hsz, _, hh⟩ := hT _ _ hte
      split at hr <;> first | (cases hr; done) | (rename_i h9 _; cases h9; done) | skip
      rename_i fs _ _ hd _ _
      rw [hd] at hh
      obtain ⟨_, _, hl, fields, rfl, hfl, hstood, hgt, hnm⟩ := hh
      exact run_eqGuard_agg w op xt x z xs ys hgt
    split at h <;> try exact h.elim
    · rename_i r hr
      exact ⟨_, (key _ hr).1, fun w => by simp [binOp, (key _ hr).2], h⟩
    · rename_i r hr
      exact ⟨_, (key _ hr).1, fun w => by simp [binOp, (key _ hr).2], h⟩

theorem q_binOp {op : BinOp} {xt yt : TypeId} {x z : Operand} (hT : TOk P T) (ho : o.op = .binOp op xt x z yt) (h : vcOp P T yl o fr H al K) (hS : Sat y n fr a) : QOk P y o a H al K := by
  simp only [vcOp, ho] at h
  split at h <;> try exact h.elim
  rename_i u v hu hv
  obtain ⟨r, hg, hr, h⟩ := vcBin_run hT h
  exact ⟨_, fun w => by simp [execOp, ho, ev_eval hS hu, ev_eval hS hv, hg, hr, avV], h⟩

theorem q_unOp {op : UnOp} {xt : TypeId} {x : Operand} (ho : o.op = .unOp op xt x) (h : vcOp P T yl o fr H al K) (hS : Sat y n fr a) : QOk P y o a H al K := by
  simp only [vcOp, ho] at h
  split at h <;> try exact h.elim
  rename_i u hu
  unfold vcUn at h
  split at h <;> try exact h.elim
  · exact ⟨_, fun w => by simp [execOp, ho, ev_eval hS hu, Op.unary, avV], h⟩
  · rename_i k b
    exact ⟨_, fun w => by simp only [execOp, ho, ev_eval hS hu, Op.unary, Op.intArith, avV]; rfl, ARI_run h⟩
  · rename_i k b
    exact ⟨_, fun w => by simp [execOp, ho, ev_eval hS hu, Op.unary, Op.intBits, ixor, avV], h⟩

end
end Go.V
