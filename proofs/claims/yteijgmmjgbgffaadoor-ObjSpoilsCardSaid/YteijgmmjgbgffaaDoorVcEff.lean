/- The reckoner's steps on operations that write or make memory. -/
import Derived.Test.YteijgmmjgbgffaaDoorVcQuiet2
import Derived.Laws.Tables
import Derived.Laws.MakeOwn
import Derived.Laws.Append
namespace Go.V
set_option linter.unusedSectionVars false
variable [Sp]
section
variable {P : Program} {T : Tab} {yl : Option YG} {y : Value} {n : Nat} {fr : Fr} {a : Act} {w : World} {o : Oper} {al : Al} {K : AV → Hp → Al → Prop}

/-- What an operation that is no call comes to. -/
abbrev EOk (P : Program) (y : Value) (o : Oper) (a : Act) (w : World) (al : Al) (K : AV → Hp → Al → Prop) : Prop :=
  ∃ x w', ((execOp a.eval o).run P w = .ok (.value (avV y x)) w' ∨ ((execOp a.eval o).run P w = .ok .skip w' ∧ avV y x = undef)) ∧ Ge 0 w w' ∧ K x (hp w') al

theorem isCell_one {v : Value} (h : isCell v = true) : v.oneCell' = true := by cases v <;> simp_all [isCell, Value.oneCell']
theorem isCell_cells {v : Value} (h : isCell v = true) : v.cells = #[v] := by cases v <;> simp_all [isCell, Value.cells]

theorem some_of_isSome {α : Type} {x : Option α} (h : x.isSome = true) : ∃ v, x = some v := Option.isSome_iff_exists.1 h

theorem run_store_rd {b off : Nat} {v : Value} (h : (rd (hp w) b off).isSome = true) (hv : isCell v = true) (m : Mode) :
    (store ⟨b, off, none⟩ v m).run P w = .ok () (w.setCell ⟨b, off, none⟩ v) := by
  obtain ⟨u, hu⟩ := some_of_isSome h
  rw [run_store P w _ v m (isCell_one hv), cell_of_rd hu]
  simp [frozen_of_rd hu]

theorem nmO_cell {v : Value} (h : isCell v = true) : nmO v = some v := by cases v <;> first | rfl | cases h
theorem rd_wr_isSome {H : Hp} {b o b' o' : Nat} {v : Value} (hv : isCell v = true) (h : (rd H b' o').isSome = true) : (rd (wr H b o v) b' o').isSome = true := by
  unfold rd wr at *
  by_cases e : b' = b
  · subst e
    simp only [if_true]
    cases hb : H b' with
    | none => simp [hb] at h
    | some k =>
      rw [hb] at h
      simp only [Option.bind_some, Option.map_some] at h ⊢
      rw [List.getElem?_set]
      by_cases ho : o = o'
      · subst ho
        simp only [if_true]
        have hl : o < k.length := by
          rcases Nat.lt_or_ge o k.length with h' | h'
          · exact h'
          · rw [List.getElem?_eq_none h'] at h; cases h
        simp [hl, nmO_cell hv]
      · rw [if_neg ho]; exact h
  · simpa [e] using h

theorem storeCells_run {b o : Nat} : ∀ (vs : List Value) (i : Nat) (w : World), (∀ j, j < vs.length → (rd (hp w) b (o + i + j)).isSome = true) → (∀ v ∈ vs, isCell v = true) →
    ∃ w', (storeCells ⟨b, o, none⟩ vs i).run P w = .ok () w' ∧ Ge 0 w w' ∧ hp w' = wrN (hp w) b (o + i) vs
  | [], i, w, _, _ => ⟨w, by simp [storeCells], Ge.refl _ _, rfl⟩
  | v :: vs, i, w, h, hv => by
    have h0 : (rd (hp w) b (o + i)).isSome = true := by simpa using h 0 (by simp)
    obtain ⟨u, hu⟩ := some_of_isSome h0
    have e1 := hp_setCell (v := v) hu (isCell_notT (hv v (by simp)))
    obtain ⟨w', hr, hg, hh⟩ := storeCells_run vs (i + 1) (w.setCell ⟨b, o + i, none⟩ v)
      (fun j hj => by rw [e1]; exact rd_wr_isSome (hv v (by simp)) (by have := h (j + 1) (by simpa using hj); rwa [show o + i + (j + 1) = o + (i + 1) + j by omega] at this)) (fun x hx => hv x (by simp [hx]))
    refine ⟨w', ?_, (Ge.setCell v hu).trans hg, ?_⟩
    · simp [storeCells, add_off, run_store_rd h0 (hv v (by simp)), hr]
    · rw [hh, e1]; simp only [wrN]; rfl

theorem stAll_run {b o : Nat} {KK : Hp → Prop} : ∀ (vs : List Value) (i : Nat) (w : World), stAll b (o + i) vs (hp w) KK → (∀ v ∈ vs, isCell v = true) →
    ∃ w', (storeCells ⟨b, o, none⟩ vs i).run P w = .ok () w' ∧ Ge 0 w w' ∧ KK (hp w')
  | [], i, w, h, _ => ⟨w, by simp [storeCells], Ge.refl _ _, h⟩
  | v :: vs, i, w, h, hv => by
    obtain ⟨h0, h⟩ := h
    obtain ⟨u, hu⟩ := some_of_isSome h0
    have e1 := hp_setCell (v := v) hu (isCell_notT (hv v (by simp)))
    rw [← e1] at h
    obtain ⟨w', hr, hg, hk⟩ := stAll_run vs (i + 1) (w.setCell ⟨b, o + i, none⟩ v) h (fun x hx => hv x (by simp [hx]))
    exact ⟨w', by simp [storeCells, add_off, run_store_rd h0 (hv v (by simp)), hr], (Ge.setCell v hu).trans hg, hk⟩

theorem e_store {t : TypeId} {x v : Operand} (hT : TOk P T) (ho : o.op = .store t x v) (h : vcOp P T yl o fr (hp w) al K) (hS : Sat y n fr a) : EOk P y o a w al K := by
  simp only [vcOp, ho] at h
  split at h <;> try exact h.elim
  rename_i b off vv te hx hv hte
  have hcx := ev_eval hS hx
  have hcv := ev_eval hS hv
  have hsize := (hT _ _ hte).size
  obtain ⟨i, hi, hs, _⟩ := hsize
  have key : ∀ (h1 : isCell vv = true) (h2 : te.size = 1) (h : ST (hp w) b off vv fun H' => K (AV.v undef) H' al), EOk P y o a w al K := by
    intro h1 h2 h
    obtain ⟨h0, h⟩ := h
    obtain ⟨u, hu⟩ := some_of_isSome h0
    refine ⟨.v undef, w.setCell ⟨b, off, none⟩ vv, .inr ⟨?_, rfl⟩, Ge.setCell vv hu, by rw [hp_setCell hu (isCell_notT h1)]; exact h⟩
    simp [execOp, ho, hcx, hcv, Instr.storeAt, Instr.sureAddr, storeVar, isCell_cells h1, run_sizeOf hi, hs, h2, storeCells, add_off, run_store_rd h0 h1]
  obtain ⟨_, _, ti, d, hti, hu, hsz, _, hh⟩ := hT _ _ hte
  split at h <;> try exact h.elim
  · rename_i hd
    rw [hd] at hh
    cases hc : isCell vv with
    | false => rw [hc] at h; exact h.elim
    | true => rw [hc] at h; exact key hc hh.1 h
  · rename_i e hd
    rw [hd] at hh
    cases hc : isCell vv with
    | false => rw [hc] at h; exact h.elim
    | true => rw [hc] at h; exact key hc hh.1 h
  · rename_i fs hd
    split at h <;> try exact h.elim
    rename_i cs
    cases hc : Nat.beq cs.toList.length te.size && cs.toList.all isCell with
    | false => rw [hc] at h; exact h.elim
    | true =>
      rw [hc] at h
      simp only [Bool.and_eq_true, List.all_eq_true] at hc
      obtain ⟨hc1, hc2⟩ := hc
      have hc1 := Nat.eq_of_beq_eq_true hc1
      obtain ⟨w', hr, hg, hk⟩ := stAll_run (P := P) (o := off) cs.toList 0 w h hc2
      refine ⟨.v undef, w', .inr ⟨?_, rfl⟩, hg, hk⟩
      have hcs : cs.size = te.size := by simpa using hc1
      simp [execOp, ho, hcx, hcv, Instr.storeAt, Instr.sureAddr, storeVar, Value.cells, run_sizeOf hi, hs, hcs, hr]

theorem zero_run {t : TypeId} {te : TE} (hT : TSpec P t te) (hn : ∀ ts, te.d ≠ .tup ts) : ∃ z, (zeroValue t).run P w = .ok z w ∧ z.cells.toList = te.zc ∧ (∃ i, P.info? t = some i ∧ i.zero = some z) := by
  obtain ⟨_, _, ti, d, hti, hu, hsz, _, hh⟩ := hT
  cases hd : te.d <;> rw [hd] at hh
  case sc =>
    obtain ⟨_, s, z, _, _, hz, hi, h1⟩ := hh
    refine ⟨z, by simp [zeroValue, run_typeInfo hti, hi], ?_, ti, hti, hi⟩
    rw [hz]
    cases z <;> simp_all [Value.cells, Value.oneCell']
  case sl e =>
    obtain ⟨_, _, _, hz, hi⟩ := hh
    exact ⟨_, by simp only [zeroValue, Sem.run_bind, run_typeInfo hti, Result.andThen_ok, hi, Sem.run_pure], by rw [hz]; rfl, ti, hti, hi⟩
  case st fs =>
    obtain ⟨hi, _⟩ := hh
    exact ⟨_, by simp only [zeroValue, Sem.run_bind, run_typeInfo hti, Result.andThen_ok, hi, Sem.run_pure], rfl, ti, hti, hi⟩
  case ar m e =>
    obtain ⟨hi, _⟩ := hh
    exact ⟨_, by simp only [zeroValue, Sem.run_bind, run_typeInfo hti, Result.andThen_ok, hi, Sem.run_pure], rfl, ti, hti, hi⟩
  case tup ts => exact absurd hd (hn ts)

theorem NEW_run {c : Array Value} {t : TypeId} {F : Nat → Hp → Prop} (hc : c.toList.all notT = true) (h : NEW (hp w) (mkl c.toList (mkT t)) F) : F w.heap.size (hp (w.alloc (.cells c t))) := by
  rw [hp_alloc c t hc]
  exact h _ hp_fresh
theorem TSpec.mkT {t : TypeId} {te : TE} (h : TSpec P t te) : te.tl = Go.V.mkT t := h.1
theorem TSpec.nt {t : TypeId} {te : TE} (h : TSpec P t te) : te.zc.all notT = true := h.2.1
theorem rep_notT {m : Nat} {zc : List Value} (h : zc.all notT = true) : (rep m zc).all notT = true := by
  rw [List.all_eq_true] at h ⊢
  intro x hx
  unfold rep at hx
  split at hx
  · exact h x (by rw [(List.mem_replicate.1 hx).2]; simp)
  · obtain ⟨l, hl, hx⟩ := List.mem_flatten.1 hx
    rw [(List.mem_replicate.1 hl).2] at hx
    exact h x hx

theorem e_alloc {t : TypeId} (hT : TOk P T) (ho : o.op = .alloc t) (h : vcOp P T yl o fr (hp w) al K) : EOk P y o a w al K := by
  simp only [vcOp, ho] at h
  split at h <;> try exact h.elim
  rename_i te hte
  have hn : ∀ ts, te.d ≠ .tup ts := fun ts e => by rw [e] at h; exact h
  have h : NEW (hp w) (mkl te.zc te.tl) fun b H' => K (.v (.pointer (some ⟨b, 0, none⟩))) H' al := by
    split at h
    · exact h.elim
    · exact h
  obtain ⟨z, hz, hzc, _⟩ := zero_run (w := w) (hT _ _ hte) hn
  have hnt := (hT _ _ hte).nt
  rw [(hT _ _ hte).mkT, ← hzc] at h
  rw [← hzc] at hnt
  refine ⟨_, w.alloc (.cells z.cells t), .inl ?_, Ge.alloc _ _, NEW_run hnt h⟩
  simp [execOp, ho, Instr.alloc, hz, newVar, newRow, avV]

theorem e_box {t : TypeId} {v : Operand} (hY : ∀ G, yl = some G → y = yv G.L) (ho : o.op = .box t v) (h : vcOp P T yl o fr (hp w) al K) (hS : Sat y n fr a) : EOk P y o a w al K := by
  simp only [vcOp, ho] at h
  have ⟨vv, hcv, hnt, h⟩ : ∃ vv, a.eval v = vv ∧ (cellsL vv).all notT = true ∧ NEW (hp w) (mkl (cellsL vv) (mkT t)) fun b H' => K (.v (.pointer (some ⟨b, 0, none⟩))) H' al := by
    split at h <;> try exact h.elim
    · rename_i vv hv
      cases hnt : (cellsL vv).all notT with
      | false => rw [hnt] at h; exact h.elim
      | true => rw [hnt] at h; exact ⟨vv, evA_eval hS hv, hnt, h⟩
    · rename_i hv
      split at h <;> try exact h.elim
      rename_i G
      refine ⟨yv G.L, ?_, rfl, h⟩
      have := evA_eval hS hv
      rw [this]; exact hY G rfl
  have e : cellsL vv = vv.cells.toList := by cases vv <;> rfl
  rw [e] at h hnt
  refine ⟨_, w.alloc (.cells vv.cells t), .inl ?_, Ge.alloc _ _, NEW_run hnt h⟩
  simp [execOp, ho, hcv, Instr.box, newVar, newRow, avV]

theorem putAt_eq : ∀ (vs : List Value) (k off : Nat) (cs : Array Value), off + k + vs.length ≤ cs.size → ((vs.zipIdx k).foldl (fun (cs : Array Value) (p : Value × Nat) => cs.setIfInBounds (off + p.2) p.1) cs).toList = fillL.putAt cs.toList (off + k) vs
  | [], k, off, cs, _ => rfl
  | v :: vs, k, off, cs, h => by
    simp only [List.zipIdx_cons, List.foldl_cons, fillL.putAt]
    simp only [List.length_cons] at h
    rw [putAt_eq vs (k + 1) off _ (by simp; omega)]
    simp
    rfl

theorem cellsL_eq (v : Value) : cellsL v = v.cells.toList := by cases v <;> rfl

theorem fill_eq {place : Nat → Option (Nat × Nat)} : ∀ (ps : List (Nat × Value)) (zc cs : List Value), fillL place zc ps = some cs → Instr.fill place ⟨zc⟩ ps = some ⟨cs⟩
  | [], zc, cs, h => by simp only [fillL, Option.some.injEq] at h; subst h; rfl
  | (i, v) :: ps, zc, cs, h => by
    simp only [fillL] at h
    cases hp : place i with
    | none => rw [hp] at h; cases h
    | some q =>
      obtain ⟨off, size⟩ := q
      rw [hp] at h
      simp only at h
      cases hc : Nat.beq (cellsL v).length size && Nat.ble (off + size) zc.length with
      | false => rw [hc] at h; cases h
      | true =>
        rw [hc] at h
        simp only [cond_true] at h
        simp only [Bool.and_eq_true, Nat.ble_eq] at hc
        obtain ⟨h1, h2⟩ := hc
        have h1 := Nat.eq_of_beq_eq_true h1
        rw [cellsL_eq] at h h1
        simp only [Array.length_toList] at h1
        have e1 : v.cells.size = size := h1
        simp only [Instr.fill, hp, e1]
        have hb : ¬ (off + size > (⟨zc⟩ : Array Value).size) := by
          show ¬ (off + size > zc.length)
          omega
        simp only [ne_eq, not_true_eq_false, decide_false, Bool.false_or, decide_eq_true_eq, if_neg hb]
        have := fill_eq ps _ cs h
        rw [← this]
        congr 1
        apply Array.ext'
        have := putAt_eq v.cells.toList 0 off ⟨zc⟩ (by simp [e1]; omega)
        simp only [Nat.add_zero] at this
        rw [← this, ← Array.foldl_toList]
        simp

theorem evParts_eval (hS : Sat y n fr a) : ∀ {l : List (Nat × Operand)} {ps : List (Nat × Value)}, evParts fr l = some ps → l.map (fun p => (p.1, a.eval p.2)) = ps
  | [], ps, h => by simp only [evParts, Option.some.injEq] at h; subst h; rfl
  | (i, x) :: r, ps, h => by
    simp only [evParts] at h
    split at h
    · rename_i v l hv hl
      simp only [Option.some.injEq] at h
      subst h
      simp [ev_eval hS hv, evParts_eval hS hl]
    · cases h

theorem sizesOf_eq (hT : TOk P T) : ∀ {l : List (Nat × TypeId)} {pl : List (Nat × Nat)} (fs : List Field), sizesOf T l = some pl → fs.map (fun f => (f.offset, f.type)) = l → fs.mapM (fun f => (P.info? f.type).map fun i => (f.offset, i.size)) = some pl
  | [], pl, fs, h, e => by
    simp only [sizesOf, Option.some.injEq] at h
    subst h
    have : fs = [] := by simpa using e
    subst this
    rfl
  | (off, t) :: r, pl, fs, h, e => by
    cases fs with
    | nil => simp at e
    | cons f fs =>
      simp only [List.map_cons, List.cons.injEq, Prod.mk.injEq] at e
      obtain ⟨⟨rfl, rfl⟩, e⟩ := e
      simp only [sizesOf] at h
      split at h
      · rename_i te l hte hl
        simp only [Option.some.injEq] at h
        subst h
        obtain ⟨i, hi, hs, _⟩ := (hT _ _ hte).size
        simp [List.mapM_cons, hi, hs, sizesOf_eq hT fs hl e]
      · cases h

theorem e_build {t : TypeId} {parts : Array (Nat × Operand)} (hT : TOk P T) (ho : o.op = .build t parts) (h : vcOp P T yl o fr (hp w) al K) (hS : Sat y n fr a) : EOk P y o a w al K := by
  simp only [vcOp, ho] at h
  split at h <;> try exact h.elim
  rename_i te ps hte hps
  have hpe := evParts_eval hS hps
  obtain ⟨_, _, ti, d, hti, hu, hsz, _, hh⟩ := hT _ _ hte
  have fin : ∀ cs, P.built t ps = some ⟨cs⟩ → (execOp a.eval o).run P w = .ok (.value (.agg ⟨cs⟩)) w := by
    intro cs hb
    have e : (parts.map fun (i, x) => (i, a.eval x)).toList = ps := by rw [← hpe]; simp
    have := run_build w t (parts.map fun (i, x) => (i, a.eval x)) ⟨cs⟩ (by rw [e]; exact hb)
    simp only [execOp, ho, Sem.run_bind, this]
    rfl
  split at h <;> try exact h.elim
  · rename_i fs hd
    split at h <;> try exact h.elim
    rename_i pl hpl
    split at h <;> try exact h.elim
    rename_i cs hcs
    rw [hd] at hh
    obtain ⟨hz, _, _, fields, rfl, hfl, _⟩ := hh
    refine ⟨.v (.agg ⟨cs⟩), w, .inl (fin cs ?_), Ge.refl _ _, h⟩
    have := sizesOf_eq hT fields.toList hpl hfl
    simp only [Program.built, hti, hu, hz, this, Value.cells]
    rw [← fill_eq ps _ _ hcs]
    congr 1
    funext i
    simp
  · rename_i m e hd
    split at h <;> try exact h.elim
    rename_i te' hte'
    split at h <;> try exact h.elim
    rename_i cs hcs
    rw [hd] at hh
    obtain ⟨hz, rfl⟩ := hh
    obtain ⟨i2, hi2, hs2, _⟩ := (hT _ _ hte').size
    refine ⟨.v (.agg ⟨cs⟩), w, .inl (fin cs ?_), Ge.refl _ _, h⟩
    simp only [Program.built, hti, hu, hz, hi2, hs2, Value.cells]
    exact fill_eq ps _ _ hcs


theorem flat_get (zc : List Value) : ∀ (m i : Nat), i < m * zc.length → (List.replicate m zc).flatten[i]? = zc[i % zc.length]?
  | 0, i, h => by simp at h
  | m + 1, i, h => by
    rw [List.replicate_succ, List.flatten_cons]
    by_cases hi : i < zc.length
    · rw [List.getElem?_append_left hi, Nat.mod_eq_of_lt hi]
    · have hge : zc.length ≤ i := Nat.le_of_not_lt hi
      rw [List.getElem?_append_right hge, flat_get zc m (i - zc.length) (by rw [Nat.succ_mul] at h; omega)]
      congr 1
      exact (Nat.mod_eq_sub_mod hge).symm

theorem rep_eq (m : Nat) (zc : List Value) : rep m zc = (List.replicate m zc).flatten := by
  unfold rep
  split
  · rename_i z
    induction m with
    | zero => rfl
    | succ m ih => rw [List.replicate_succ, ih, List.replicate_succ]; rfl
  · rfl

theorem rep_cells (z : Array Value) (m : Nat) : ((Array.range (m * z.size)).map fun i => z[i % z.size]!).toList = rep m z.toList := by
  rw [rep_eq]
  apply List.ext_getElem?
  intro i
  by_cases hi : i < m * z.size
  · rw [flat_get z.toList m i (by simpa using hi)]
    have hz : 0 < z.size := Nat.pos_of_ne_zero (fun e => by rw [e] at hi; simp at hi)
    have hm : i % z.size < z.size := Nat.mod_lt _ hz
    simp [hi, hm]
  · have h1 : ((List.replicate m z.toList).flatten).length ≤ i := by simp; omega
    rw [List.getElem?_eq_none h1, List.getElem?_eq_none (by simp; omega)]

theorem zsize {t : TypeId} {te : TE} {z : Value} {i : TypeInfo} (hT : TSpec P t te) (hn : noTup te = true) (hz : z.cells.toList = te.zc) (hi : P.info? t = some i) : z.cells.size = i.size := by
  obtain ⟨_, _, ti, d, hti, hu, hsz, _, hh⟩ := hT
  rw [hi] at hti
  cases hti
  have e : z.cells.size = te.zc.length := by rw [← hz]; simp
  rw [e, hsz]
  cases hd : te.d <;> rw [hd] at hh
  case sc => obtain ⟨h1, s, z', _, _, hz, _⟩ := hh; rw [hz, h1]; rfl
  case sl e => obtain ⟨h1, _, _, hz, _⟩ := hh; rw [hz, h1]; rfl
  case st fs => exact hh.2.1
  case ar m e => simp [noTup, hd] at hn
  case tup ts => simp [noTup, hd] at hn

theorem noTup_ne {te : TE} (h : noTup te = true) : ∀ ts, te.d ≠ .tup ts := fun ts e => by simp [noTup, e] at h

theorem e_makeSlice {t : TypeId} {l c : Operand} (hT : TOk P T) (ho : o.op = .makeSlice t l c) (h : vcOp P T yl o fr (hp w) al K) (hS : Sat y n fr a) : EOk P y o a w al K := by
  simp only [vcOp, ho] at h
  split at h <;> try exact h.elim
  rename_i k1 lv k2 cv te hl hc hte
  split at h <;> try exact h.elim
  rename_i e hd
  split at h <;> try exact h.elim
  rename_i te' hte'
  obtain ⟨j, m, rfl, rfl, hjm, hby, hm, h⟩ := h
  obtain ⟨_, _, ti, d, hti, hu, hsz, _, hh⟩ := hT _ _ hte
  rw [hd] at hh
  obtain ⟨_, rfl, _⟩ := hh
  cases hn : noTup te' with
  | false => rw [hn] at h; exact h.elim
  | true =>
    rw [hn] at h
    simp only [cond_true] at h
    obtain ⟨z, hz, hzc, i2, hi2, hzi⟩ := zero_run (w := w) (hT _ _ hte') (noTup_ne hn)
    obtain ⟨i3, hi3, hs2, hb2⟩ := (hT _ _ hte').size
    rw [hi2] at hi3
    cases hi3
    have hzs := zsize (hT _ _ hte') hn hzc hi2
    have hnt := rep_notT (m := m) (hT _ _ hte').nt
    rw [(hT _ _ hte').mkT] at h
    rw [← hzc, ← rep_cells] at h hnt
    refine ⟨.v (.slice (some ⟨w.heap.size, 0, none⟩) j m), w.alloc (.cells ((Array.range (m * z.cells.size)).map fun i => z.cells[i % z.cells.size]!) e), .inl ?_, Ge.alloc _ _, NEW_run hnt h⟩
    have hcj := ev_eval hS hl
    have hcm := ev_eval hS hc
    have hby' : (i2.bytes : Int) * (m : Int) ≤ 281474976710656 := by
      rw [hb2]
      have h1 : ((te'.bytes * m : Nat) : Int) ≤ ((281474976710656 : Nat) : Int) := Int.ofNat_le.2 hby
      rw [Int.natCast_mul] at h1
      exact h1
    have hr := run_make w t e i2 z hu hi2 hzi k1 k2 j m (by omega) (by omega) hby' (by omega)
    simp only [execOp, ho, hcj, hcm, Sem.run_bind, hr]
    simp [madeCells, hzs, avV]

theorem e_buildSlice {t : TypeId} {len : Nat} {parts : Array (Nat × Operand)} (hT : TOk P T) (ho : o.op = .buildSlice t len parts) (h : vcOp P T yl o fr (hp w) al K) (hS : Sat y n fr a) : EOk P y o a w al K := by
  simp only [vcOp, ho] at h
  split at h <;> try exact h.elim
  rename_i te ps hte hps
  have hpe := evParts_eval hS hps
  split at h <;> try exact h.elim
  rename_i e hd
  split at h <;> try exact h.elim
  rename_i te' hte'
  obtain ⟨_, _, ti, d, hti, hu, hsz, _, hh⟩ := hT _ _ hte
  rw [hd] at hh
  obtain ⟨_, rfl, _⟩ := hh
  cases hn : noTup te' && Nat.ble (len * te'.size) 16777216 with
  | false => rw [hn] at h; exact h.elim
  | true =>
    rw [hn] at h
    simp only [cond_true] at h
    simp only [Bool.and_eq_true, Nat.ble_eq] at hn
    split at h <;> try exact h.elim
    rename_i cs hcs
    cases hnt : cs.all notT with
    | false => rw [hnt] at h; exact h.elim
    | true =>
    rw [hnt, (hT _ _ hte').mkT] at h
    simp only [cond_true] at h
    obtain ⟨z, hz, hzc, i2, hi2, hzi⟩ := zero_run (w := w) (hT _ _ hte') (noTup_ne hn.1)
    obtain ⟨i3, hi3, hs2, hb2⟩ := (hT _ _ hte').size
    rw [hi2] at hi3
    cases hi3
    have hzs := zsize (hT _ _ hte') hn.1 hzc hi2
    rw [← hzc, ← rep_cells] at hcs
    have hf := fill_eq ps _ _ hcs
    have e1 : (⟨((Array.range (len * z.cells.size)).map fun i => z.cells[i % z.cells.size]!).toList⟩ : Array Value) = (Array.range (len * z.cells.size)).map fun i => z.cells[i % z.cells.size]! := by apply Array.ext'; rfl
    rw [e1, hzs, ← hs2] at hf
    have e2 : (parts.map fun (i, x) => (i, a.eval x)).toList = ps := by rw [← hpe]; simp
    have hb : ¬ (16777216 < len * i2.size) := by rw [hs2]; have := hn.2; omega
    refine ⟨.v (.slice (some ⟨w.heap.size, 0, none⟩) len len), w.alloc (.cells ⟨cs⟩ e), .inl ?_, Ge.alloc _ _, NEW_run (c := ⟨cs⟩) hnt h⟩
    have e0 : ∀ (f : Nat → Value), Array.map f (Array.range 0) = #[] := fun f => Array.ext (by simp) (by intro i h; simp at h)
    by_cases h0 : len * i2.size = 0
    · rw [h0, e0] at hf
      simp only [execOp, ho, Instr.buildSlice, Sem.run_bind, run_underlying hu, Result.andThen_ok, run_sizeOf hi2, e2]
      simp [h0, e0, hf, newRow, avV]
    · simp only [execOp, ho, Instr.buildSlice, Sem.run_bind, run_underlying hu, Result.andThen_ok, run_sizeOf hi2, e2]
      simp [h0, hb, hz, hzs, hf, newRow, avV]

theorem rdN_cells {b off m : Nat} {cs : List Value} (h : rdN (hp w) b off m cs) : (loadCells ⟨b, off, none⟩ m).run P w = .ok ⟨cs⟩ w := by
  obtain ⟨hl, h⟩ := h
  have := run_loadCells_list (P := P) (w := w) ⟨b, off, none⟩ cs (fun j v hj => by rw [add_off]; exact cell_of_rd (h j v hj))
  rw [hl] at this
  exact this

theorem rdN_notT {b off m : Nat} {cs : List Value} (h : rdN (hp w) b off m cs) : cs.all notT = true := by
  rw [List.all_eq_true]
  intro v hv
  obtain ⟨i, hi⟩ := List.mem_iff_getElem?.1 hv
  obtain ⟨_, _, _, _, _, _, hn⟩ := rd_world (h.2 i v hi)
  exact hn
theorem src_run {s : Nat} {x : Value} {F : Nat → List Value → Prop} (h : srcCells (hp w) s x F) :
    ∃ m cs, (Builtin.lenOf x).run P w = .ok m w ∧ (∀ W, hp W = hp w → (Builtin.firstCells s m x).run P W = .ok ⟨cs⟩ W) ∧ cs.all notT = true ∧ F m cs := by
  unfold srcCells at h
  split at h <;> try exact h.elim
  · rename_i m c
    exact ⟨m, [], by simp [Builtin.lenOf], fun W hW => by simp [Builtin.firstCells], rfl, h⟩
  · rename_i b off m c
    obtain ⟨cs, hr, h⟩ := h
    exact ⟨m, cs, by simp [Builtin.lenOf], fun W hW => by rw [← hW] at hr; simp [Builtin.firstCells, rdN_cells hr], rdN_notT hr, h⟩
  · obtain ⟨rfl, h⟩ := h
    exact ⟨0, [], by simp [Builtin.lenOf], fun W hW => by simp [Builtin.firstCells, loadCells, loadCellsFrom], rfl, h⟩
  · rename_i z
    refine ⟨z.size, _, by simp [Builtin.lenOf], fun W hW => ?_, ?_, h⟩
    · simp only [Builtin.firstCells, Sem.run_pure]
      congr 1
      apply Array.ext'
      have : (z.extract 0 z.size) = z := by simp
      rw [this]
      simp
    · rw [List.all_eq_true]
      intro v hv
      obtain ⟨_, _, rfl⟩ := List.mem_map.1 hv
      rfl

theorem wrN_hp {b off : Nat} {cs : List Value} (h : (∀ i, i < cs.length → (rd (hp w) b (off + i)).isSome = true) ∧ (∀ v ∈ cs, isCell v = true)) :
    ∃ w', (storeCells ⟨b, off, none⟩ cs).run P w = .ok () w' ∧ Ge 0 w w' ∧ hp w' = wrN (hp w) b off cs := by
  have := storeCells_run (P := P) (b := b) (o := off) cs 0 w (by simpa using h.1) h.2
  simpa using this

end
end Go.V
