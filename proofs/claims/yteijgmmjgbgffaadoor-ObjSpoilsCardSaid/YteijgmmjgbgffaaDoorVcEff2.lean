/- The reckoner's steps: append, copy, conversions. -/
import Derived.Test.YteijgmmjgbgffaaDoorVcEff
import Derived.Laws.IdiomStrings
namespace Go.V
set_option linter.unusedSectionVars false
variable [Sp]
section
variable {P : Program} {T : Tab} {yl : Option YG} {y : Value} {n : Nat} {fr : Fr} {a : Act} {w : World} {o : Oper} {al : Al} {K : AV → Hp → Al → Prop}

theorem notInt_run {t : TypeId} {te : TE} (hT : TSpec P t te) (h : notInt te = true) : P.underlying t = some .string ∨ ∃ e, P.underlying t = some (.slice e) := by
  obtain ⟨_, _, ti, d, hti, hu, hsz, _, hh⟩ := hT
  unfold notInt at h
  split at h <;> try (cases h; done)
  · rename_i hd hs
    rw [hd] at hh
    obtain ⟨_, s, z, hs', hsd, _⟩ := hh
    rw [hs] at hs'
    cases hs'
    cases d <;> first | exact .inl hu | exact absurd (show false = true from hsd) (by decide)
  · rename_i e s hd hs
    rw [hd] at hh
    obtain ⟨_, rfl, _⟩ := hh
    exact .inr ⟨_, hu⟩

set_option maxHeartbeats 1000000 in
theorem append_run {t u e : TypeId} {ts : List TypeId} {ty : TypeId} {te' ue : TE} {p : Option Addr} {len cap : Nat} {x : Value} {xs : List Value} {F : Option Addr → Nat → Nat → Hp → Prop}
    (hu : P.underlying t = some (.slice e)) (hT' : TSpec P e te') (hn : noTup te' = true) (hU : TSpec P u ue) (hni : notInt ue = true) (h : APP (hp w) te' p len cap x F) :
    ∃ q l c w', (Builtin.append_ ⟨t :: u :: ts⟩ ty ⟨.slice p len cap :: x :: xs⟩).run P w = .ok (.slice q l c) w' ∧ Ge 0 w w' ∧ F q l c (hp w') := by
  have hdu := notInt_run hU hni
  obtain ⟨m, new, hlen, hnew, hnt1, h1, h2⟩ := src_run (P := P) h
  obtain ⟨z, hz, hzc, i2, hi2, hzi⟩ := zero_run (P := P) (w := w) hT' (noTup_ne hn)
  obtain ⟨i3, hi3, hs2, hb2⟩ := hT'.size
  rw [hi2] at hi3
  cases hi3
  have hzs := zsize hT' hn hzc hi2
  by_cases hcap : len + m ≤ cap
  · have h1 := h1 hcap
    split at h1 <;> try exact h1.elim
    · refine ⟨none, len + m, cap, w, ?_, Ge.refl _ _, h1⟩
      have hf := hnew w rfl
      rw [← hs2] at hf
      rcases hdu with hdu | ⟨e', hdu⟩ <;> simp [Builtin.append_, run_underlying hu, run_sizeOf hi2, run_underlying hdu, hlen, hcap, hf]
    · rename_i b off _
      obtain ⟨g1, g2, g3⟩ := h1
      obtain ⟨w', hr, hg, hh⟩ := wrN_hp (P := P) (w := w) (off := off + len * te'.size) (b := b) (cs := new) ⟨g1, g2⟩
      refine ⟨_, _, _, w', ?_, hg, by rw [hh]; exact g3⟩
      have hf := hnew w rfl
      rw [← hs2] at hf hr
      rcases hdu with hdu | ⟨e', hdu⟩ <;> simp [Builtin.append_, run_underlying hu, run_sizeOf hi2, run_underlying hdu, hlen, hcap, hf, add_off, hr]
  · obtain ⟨g1, g2, g3⟩ := h2 (by omega)
    obtain ⟨m', old, hlen', hold, hnt2, h3⟩ := src_run (P := P) g3
    have em : m' = len := by
      simp [Builtin.lenOf] at hlen'
      omega
    subst em
    let c := (Question.appendCap (m' + m) cap e).cut (w.tape w.drawn (.appendCap (m' + m) cap e))
    have hc : m' + m ≤ c := by simp only [c, Question.cut]; omega
    have hcc : (Question.appendCap (m' + m) cap e).cut (w.tape w.drawn (.appendCap (m' + m) cap e)) = c := rfl
    have hh := h3 c w.heap.size hp_fresh hc
    refine ⟨_, _, _, w.drew.alloc (.cells ⟨old ++ (new ++ rep (c - (m' + m)) te'.zc)⟩ e), ?_, (Ge.drew w).trans (Ge.alloc _ _), by rw [hp_alloc _ _ (by rw [List.all_append, List.all_append, hnt1, hnt2, rep_notT hT'.nt]; rfl), hp_drew, ← hT'.mkT]; exact hh⟩
    have hf := hnew w.drew rfl
    have hfo := hold w.drew rfl
    rw [← hs2] at hf hfo
    have hb0 : ¬ i2.bytes = 0 := by omega
    have hnb : ¬ (281474976710656 < Builtin.nextslicecap (m' + m) cap * i2.bytes) := by rw [hb2]; omega
    have hzz : ∀ W, (zeroValue e).run P W = .ok z W := fun W => by simp [zeroValue, run_typeInfo hi2, hzi]
    have hcells : Builtin.zeroCells z.cells (c - (m' + m)) = ⟨rep (c - (m' + m)) te'.zc⟩ := by
      apply Array.ext'
      rw [← hzc, ← rep_cells]
      rfl
    rcases hdu with hdu | ⟨e', hdu⟩
    all_goals
      simp [Builtin.append_, run_underlying hu, run_sizeOf hi2, run_underlying hdu, hlen, hcap, hb0, hnb, run_typeInfo hi2, Question.forced, hcc, hf, hfo, hzz, hcells, newRow]


theorem isSh_int {t : TypeId} {k : IntKind} (hT : TOk P T) (h : isSh T t (.int k) = true) : P.underlying t = some (.int k) := by
  obtain ⟨d, hu, hd⟩ := isSh_spec hT h
  rcases hd with hd | ⟨hd, _⟩
  · cases d <;> first | exact absurd (show false = true from hd) (by decide) | skip
    rename_i k'
    have : k = k' := by simpa [shD] using hd
    rw [this]; exact hu
  · cases hd

theorem push_all : ∀ (l : List UInt8) (acc : List UInt8), (l.map fun x => (x.toNat : Int)).foldl (fun (r : ByteArray) (n : Int) => r.push (UInt8.ofNat n.toNat)) ⟨⟨acc⟩⟩ = ⟨⟨acc ++ l⟩⟩
  | [], acc => by simp
  | x :: l, acc => by
    simp only [List.map_cons, List.foldl_cons]
    have : (⟨⟨acc⟩⟩ : ByteArray).push (UInt8.ofNat ((x.toNat : Int)).toNat) = ⟨⟨acc ++ [x]⟩⟩ := by
      simp [ByteArray.push]
    rw [this, push_all l (acc ++ [x])]
    simp

theorem BTS_run {p : Option Addr} {m c : Nat} {F : ByteArray → Prop} (h : BTS (hp w) p m F) : ∃ s, (Conv.bytesToString (.slice p m c)).run P w = .ok (.string s) w ∧ F s := by
  unfold BTS at h
  split at h <;> try exact h.elim
  · exact ⟨_, by simp [Conv.bytesToString], h⟩
  · rename_i b off
    obtain ⟨l, hl, hr, h⟩ := h
    refine ⟨_, ?_, h⟩
    have hc : (loadCells ⟨b, off, none⟩ m).run P w = .ok ((l.map fun x => (x.toNat : Int)).map (Value.int .u8)).toArray w := by
      have := rdN_cells (P := P) (w := w) (b := b) (off := off) (m := m) (cs := (l.map fun x => (x.toNat : Int)).map (Value.int .u8)) ⟨by simp [hl], fun i v hv => by
        simp only [List.map_map, List.getElem?_map, Option.map_eq_some_iff] at hv
        obtain ⟨x, hx, rfl⟩ := hv
        exact hr i x hx⟩
      exact this
    rw [run_bytesToString (P := P) w ⟨b, off, none⟩ m c (l.map fun x => (x.toNat : Int)) hc]
    have := push_all l []
    simp only [List.nil_append] at this
    rw [← this]
    rfl

theorem e_convert {src dst : TypeId} {x : Operand} (hT : TOk P T) (ho : o.op = .convert src dst x) (h : vcOp P T yl o fr (hp w) al K) (hS : Sat y n fr a) : EOk P y o a w al K := by
  simp only [vcOp, ho] at h
  split at h <;> try exact h.elim
  rename_i xv hx
  have hc := ev_eval hS hx
  unfold vcConv at h
  split at h <;> try exact h.elim
  rename_i se te hse hte
  obtain ⟨_, _, tj, ds, htj, hus, _, _, hhs⟩ := hT _ _ hse
  obtain ⟨_, _, ti, d, hti, hu, hsz, _, hh⟩ := hT _ _ hte
  split at h <;> try exact h.elim
  · rename_i k' k m hd hs
    rw [hd] at hh
    obtain ⟨_, s, z, hs', hsd, _⟩ := hh
    rw [hs] at hs'
    cases hs'
    have hu' : P.underlying dst = some (.int k') := by
      cases d <;> first | exact absurd (show false = true from hsd) (by decide) | skip
      rename_i k2
      have : k' = k2 := by simpa [shD] using hsd
      rw [this]; exact hu
    cases hw : widen k k' with
    | true =>
      rw [hw] at h
      exact ⟨_, w, .inl (by simp [execOp, ho, hc, convert, run_underlying hus, run_underlying hu', Conv.intToInt, wrap_in k' h.1, avV]), Ge.refl _ _, h.2⟩
    | false =>
      rw [hw] at h
      exact ⟨_, w, .inl (by simp [execOp, ho, hc, convert, run_underlying hus, run_underlying hu', Conv.intToInt, avV]), Ge.refl _ _, h⟩
  · rename_i s hd hs
    rw [hd] at hh
    obtain ⟨_, s, z, hs', hsd, _⟩ := hh
    rw [hs] at hs'
    cases hs'
    have hu' : P.underlying dst = some .string := by
      cases d <;> first | exact absurd (show false = true from hsd) (by decide) | exact hu
    refine ⟨_, w, .inl ?_, Ge.refl _ _, h⟩
    cases ds <;> simp [execOp, ho, hc, convert, run_underlying hus, run_underlying hu', avV]
  · obtain ⟨q, hq, h⟩ := h
    exact ⟨.v (.pointer q), w, .inl (by simp [execOp, ho, hc, hq w rfl, avV]), Ge.refl _ _, h⟩
  · rename_i p m c hd hs
    split at h <;> try exact h.elim
    rename_i e hse'
    cases hi : isSh T e (.int .u8) with
    | false => rw [hi] at h; exact h.elim
    | true =>
      rw [hi] at h
      rw [hd] at hh
      obtain ⟨_, s, z, hs', hsd, _⟩ := hh
      rw [hs] at hs'
      cases hs'
      have hu' : P.underlying dst = some .string := by
        cases d <;> first | exact absurd (show false = true from hsd) (by decide) | exact hu
      rw [hse'] at hhs
      obtain ⟨_, rfl, _⟩ := hhs
      simp only [cond_true] at h
      obtain ⟨s, hr, h⟩ := BTS_run (P := P) (c := c) h
      refine ⟨.v (.string s), w, .inl ?_, Ge.refl _ _, h⟩
      cases p <;> simp [execOp, ho, hc, convert, run_underlying hus, run_underlying hu', run_underlying (isSh_int hT hi), hr, avV]


theorem e_append {c : Call} (hT : TOk P T) (ho : o.op = .call c) (hc : c.callee = .builtin .append) (h : vcOp P T yl o fr (hp w) al K) (hS : Sat y n fr a) : EOk P y o a w al K := by
  simp only [vcOp, ho, hc] at h
  split at h <;> try exact h.elim
  rename_i args hargs
  have ha := evsA_eval hS hargs
  have hts : c.argTypes = ⟨c.argTypes.toList⟩ := by simp
  generalize c.argTypes.toList = ts at h hts
  simp only [vcBuiltin, bApp] at h
  split at h <;> try exact h.elim
  rename_i t u r p len cap x xs
  split at h <;> try exact h.elim
  rename_i te ue hte hue
  split at h <;> try exact h.elim
  rename_i e hd
  cases hni : notInt ue with
  | false => rw [hni] at h; exact h.elim
  | true =>
    rw [hni] at h
    simp only [cond_true] at h
    split at h <;> try exact h.elim
    rename_i te' hte'
    cases hn : noTup te' with
    | false => rw [hn] at h; exact h.elim
    | true =>
      rw [hn] at h
      simp only [cond_true] at h
      obtain ⟨_, _, ti, d, hti, hu, hsz, _, hh⟩ := hT _ _ hte
      rw [hd] at hh
      obtain ⟨_, rfl, _⟩ := hh
      obtain ⟨q, l, k, w', hr, hg, h⟩ := append_run (ts := r) (ty := o.type) (xs := xs) hu (hT _ _ hte') hn (hT _ _ hue) hni h
      exact ⟨_, w', .inl (ex_builtin ho hc ha (fun cs => by simp only [builtin, hts, Sem.run_bind, hr]; rfl)), hg, h⟩

theorem clear_run {t e : TypeId} {ts : List TypeId} {ty : TypeId} {te' : TE} {p : Option Addr} {len cap : Nat} {xs : List Value} {F : Hp → Prop}
    (hu : P.underlying t = some (.slice e)) (hT' : TSpec P e te') (hn : noTup te' = true) (h : CLR (hp w) te' p len F) :
    ∃ w', (Builtin.clear_ ⟨t :: ts⟩ ty ⟨.slice p len cap :: xs⟩).run P w = .ok (.tuple #[]) w' ∧ Ge 0 w w' ∧ F (hp w') := by
  unfold CLR at h
  split at h <;> try exact h.elim
  · exact ⟨w, by simp [Builtin.clear_, run_underlying hu], Ge.refl _ _, h⟩
  · rename_i b off
    obtain ⟨g1, g2, g3⟩ := h
    cases len with
    | zero => exact ⟨w, by simp [Builtin.clear_, run_underlying hu], Ge.refl _ _, by
        have e0 : rep 0 te'.zc = [] := by unfold rep; split <;> rfl
        rw [e0] at g3; exact g3⟩
    | succ m =>
      obtain ⟨z, hz, hzc, i2, hi2, hzi⟩ := zero_run (P := P) (w := w) hT' (noTup_ne hn)
      obtain ⟨w', hr, hg, hh⟩ := wrN_hp (P := P) (w := w) (off := off) (b := b) (cs := rep (m + 1) te'.zc) ⟨g1, g2⟩
      refine ⟨w', ?_, hg, by rw [hh]; exact g3⟩
      have hcells : (Builtin.zeroCells z.cells (m + 1)).toList = rep (m + 1) te'.zc := by
        rw [← hzc, ← rep_cells]
        rfl
      have hzz : ∀ W, (zeroValue e).run P W = .ok z W := fun W => by simp [zeroValue, run_typeInfo hi2, hzi]
      simp [Builtin.clear_, run_underlying hu, hzz, hcells, hr]

theorem e_clear {c : Call} (hT : TOk P T) (ho : o.op = .call c) (hc : c.callee = .builtin .clear) (h : vcOp P T yl o fr (hp w) al K) (hS : Sat y n fr a) : EOk P y o a w al K := by
  simp only [vcOp, ho, hc] at h
  split at h <;> try exact h.elim
  rename_i args hargs
  have ha := evsA_eval hS hargs
  have hts : c.argTypes = ⟨c.argTypes.toList⟩ := by simp
  generalize c.argTypes.toList = ts at h hts
  simp only [vcBuiltin, bClr] at h
  split at h <;> try exact h.elim
  rename_i t r p len cap xs
  split at h <;> try exact h.elim
  rename_i te hte
  split at h <;> try exact h.elim
  rename_i e hd
  split at h <;> try exact h.elim
  rename_i te' hte'
  cases hn : noTup te' with
  | false => rw [hn] at h; exact h.elim
  | true =>
    rw [hn] at h
    simp only [cond_true] at h
    obtain ⟨_, _, ti, d, hti, hu, hsz, _, hh⟩ := hT _ _ hte
    rw [hd] at hh
    obtain ⟨_, rfl, _⟩ := hh
    obtain ⟨w', hr, hg, h⟩ := clear_run (ts := r) (ty := o.type) (xs := xs) (cap := cap) hu (hT _ _ hte') hn h
    exact ⟨_, w', .inl (ex_builtin ho hc ha (fun cs => by simp only [builtin, hts, Sem.run_bind, hr]; rfl)), hg, h⟩

theorem lift_elim {s : Sh} {v : Value} {F : Value → Prop} (h : lift s v F) : F v := by
  cases s <;> simp only [lift, liftI, liftB, liftS, liftP, liftL, liftM] at h
  case int k =>
    split at h <;> try exact h.elim
    split at h <;> try exact h.elim
    rename_i hk _
    subst hk
    exact h
  case any => exact h
  all_goals (split at h <;> first | exact h | exact h.elim)

theorem lifts_elim {l : List Sh} {vs : List Value} {F : List Value → Prop} (h : lifts l vs F) : F vs ∧ vs.length = l.length := by
  unfold lifts at h
  split at h <;> simp only [d0, d1, d2, d3, d4, d5, d6] at h <;> try exact h.elim
  all_goals (split at h <;> try exact h.elim)
  · exact ⟨h, rfl⟩
  · exact ⟨lift_elim h, rfl⟩
  · exact ⟨lift_elim (lift_elim h), rfl⟩
  · exact ⟨lift_elim (lift_elim (lift_elim h)), rfl⟩
  · exact ⟨lift_elim (lift_elim (lift_elim (lift_elim h))), rfl⟩
  · exact ⟨lift_elim (lift_elim (lift_elim (lift_elim (lift_elim h)))), rfl⟩
  · exact ⟨lift_elim (lift_elim (lift_elim (lift_elim (lift_elim (lift_elim h))))), rfl⟩

theorem aggV_elim {v : Value} {F : List Value → Prop} (h : aggV v F) : ∃ cs, v = .agg cs ∧ F cs.toList := by
  unfold aggV at h
  split at h
  · exact ⟨_, rfl, h⟩
  · exact h.elim
theorem liftW_elim {s : VS} {v : Value} {F : Value → Prop} (h : liftW s v F) : F v := by
  cases s with
  | one s => exact lift_elim h
  | agg l =>
    simp only [liftW] at h
    obtain ⟨cs, rfl, h2⟩ := aggV_elim h
    have := (lifts_elim h2).1
    simpa using this
theorem liftWs_elim {l : List VS} {vs : List Value} {F : List Value → Prop} (h : liftWs l vs F) : F vs ∧ vs.length = l.length := by
  unfold liftWs at h
  split at h <;> simp only [d0, d1, d2, d3] at h <;> try exact h.elim
  all_goals (split at h <;> try exact h.elim)
  · exact ⟨h, rfl⟩
  · exact ⟨liftW_elim h, rfl⟩
  · exact ⟨liftW_elim (liftW_elim h), rfl⟩
  · exact ⟨liftW_elim (liftW_elim (liftW_elim h)), rfl⟩


theorem lift1_elim {t : TypeId} {v : Value} {F : Value → Prop} (h : lift1 T t v F) : F v := by
  unfold lift1 at h
  split at h <;> try exact h.elim
  rename_i te hte
  split at h <;> try exact h.elim
  · split at h <;> try exact h.elim
    exact lift_elim h
  · split at h <;> try exact h.elim
    exact lift_elim h
  · obtain ⟨cs, rfl, h2⟩ := aggV_elim h
    have := (lifts_elim h2).1
    simpa using this

theorem liftRes_elim {t : TypeId} {v : Value} {F : Value → Prop} (h : liftRes T t v F) : F v := by
  unfold liftRes at h
  split at h <;> try exact h.elim
  rename_i te hte
  split at h <;> try exact h.elim
  · split at h <;> try exact h.elim
    exact lift_elim h
  · split at h <;> try exact h.elim
    exact lift_elim h
  · obtain ⟨cs, rfl, h2⟩ := aggV_elim h
    have := (lifts_elim h2).1
    simpa using this
  · unfold tupV at h
    split at h <;> try exact h.elim
    rename_i cs
    obtain ⟨l⟩ := cs
    simp only at h
    split at h <;> simp only [d0, d2, d3, d4] at h <;> try exact h.elim
    all_goals (split at h <;> try exact h.elim)
    · exact h
    · have h2 := lift1_elim h; exact lift1_elim (F := fun y => F (.tuple ⟨[_, y]⟩)) h2
    · have h2 := lift1_elim h; have h3 := lift1_elim h2; exact lift1_elim (F := fun y => F (.tuple ⟨[_, _, y]⟩)) h3
    · have h2 := lift1_elim h; have h3 := lift1_elim h2; have h4 := lift1_elim h3; exact lift1_elim (F := fun y => F (.tuple ⟨[_, _, _, y]⟩)) h4

theorem BLT_run {b : Builtin} {c : Call} {args : List Value} {F : Value → Hp → Prop} (ho : o.op = .call c) (hc : c.callee = .builtin b) (ha : c.args.map a.eval = ⟨args⟩) (h : BLT P b c.argTypes.toList o.type args (hp w) F)
    (hF : ∀ v w', Ge 0 w w' → F v (hp w') → K (.v v) (hp w') al) : EOk P y o a w al K := by
  obtain ⟨v, w', h1, h2, h3⟩ := h w rfl
  exact ⟨.v v, w', .inl (ex_builtin ho hc ha fun cs => by have := h1 cs; simpa [avV] using this), h2, hF v w' h2 h3⟩

/-- Is it a call of code (a function, a value, yield). -/
def callOp : Op → Bool
  | .call { callee := .value _, .. } => true
  | _ => false

/-- Every operation but a call of code. -/
theorem e_all (hY : ∀ G, yl = some G → y = yv G.L) (hT : TOk P T) (hq : callOp o.op = false) (h : vcOp P T yl o fr (hp w) al K) (hS : Sat y n fr a) : EOk P y o a w al K := by
  cases hqq : quietOp o.op with
  | true =>
    obtain ⟨x, h1, h2⟩ := q_all hT hqq h hS
    exact ⟨x, w, .inl h1, Ge.refl _ _, h2⟩
  | false =>
    cases ho : o.op <;> try (rw [ho] at hqq; cases hqq; done)
    case alloc => exact e_alloc hT ho h
    case box => exact e_box hY ho h hS
    case build => exact e_build hT ho h hS
    case buildSlice => exact e_buildSlice hT ho h hS
    case store => exact e_store hT ho h hS
    case convert => exact e_convert hT ho h hS
    case makeSlice => exact e_makeSlice hT ho h hS
    case call c =>
      cases hc : c.callee with
      | builtin b =>
        cases b with
        | append => exact e_append hT ho hc h hS
        | clear => exact e_clear hT ho hc h hS
        | unsafeString =>
          simp only [vcOp, ho, hc] at h
          split at h <;> try exact h.elim
          rename_i args hargs
          have h := (show BLT P _ c.argTypes.toList o.type args (hp w) (fun v H' => liftRes T o.type v fun v' => K (.v v') H' al) from h)
          exact BLT_run ho hc (evsA_eval hS hargs) h fun v w' _ h' => liftRes_elim h'
        | unsafeSliceData =>
          simp only [vcOp, ho, hc] at h
          split at h <;> try exact h.elim
          rename_i args hargs
          have h := (show BLT P _ c.argTypes.toList o.type args (hp w) (fun v H' => liftRes T o.type v fun v' => K (.v v') H' al) from h)
          exact BLT_run ho hc (evsA_eval hS hargs) h fun v w' _ h' => liftRes_elim h'
        | copy =>
          simp only [vcOp, ho, hc] at h
          split at h <;> try exact h.elim
          rename_i args hargs
          have h := (show BLT P _ c.argTypes.toList o.type args (hp w) (fun v H' => liftRes T o.type v fun v' => K (.v v') H' al) from h)
          exact BLT_run ho hc (evsA_eval hS hargs) h fun v w' _ h' => liftRes_elim h'
        | _ =>
          first
          | (exfalso; obtain ⟨ce, ar, at'⟩ := c; simp only at hc; subst hc; rw [ho] at hqq; cases hqq; done)
          | (exfalso; simp only [vcOp, ho, hc] at h; split at h <;> first | exact h | (simp only [vcBuiltin] at h))
      | value f => obtain ⟨ce, ar, at'⟩ := c; simp only at hc; subst hc; rw [ho] at hq; cases hq
      | invoke f m => simp only [vcOp, ho, hc] at h
    all_goals (exfalso; simp only [vcOp, ho] at h)

end
end Go.V
