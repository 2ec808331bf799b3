/- The reckoner is sound: whole functions. -/
import Derived.Test.YteijgmmjgbgffaaDoorVcSound3
namespace Go.V
set_option linter.unusedSectionVars false
variable [Sp]

def resK (T : Tab) : List ResultVar → Fr → Hp → (List Value → Prop) → Prop
  | [], _, _, K => K []
  | .tmp t :: r, fr, H, K => match fr.get t with
    | some (.v v) => resK T r fr H fun vs => K (v :: vs)
    | _ => False
  | .cell a t :: r, fr, H, K => match fr.get a, T t with
    | some (.v (.pointer (some ⟨b, o, none⟩))), some te => match te.d with
      | .sc | .sl _ => match te.sh with
        | [s] => ldSh s (rd H b o) fun v => resK T r fr H fun vs => K (v :: vs)
        | _ => False
      | .st _ => ldAgg H b o te.sh fun xs => resK T r fr H fun vs => K (.agg ⟨xs⟩ :: vs)
      | _ => False
    | _, _ => False

def retV : List Value → Value
  | [v] => v
  | vs => .tuple ⟨vs⟩

def initFr : Nat → List AV → Fr
  | _, [] => []
  | i, x :: r => (i, x) :: initFr (i + 1) r

/-- What a function asks. -/
def vcFun (P : Program) (T : Tab) (A : Ann) (yl : Option YG) (fn : Func) (args : List AV) (H : Hp) (K : Value → Hp → Al → Prop) : Prop :=
  match fn.body with
  | none => False
  | some c => bif Nat.ble args.length fn.ntmps then
      vc P T A yl fn.ntmps c 0 (initFr 0 args) H .on fun e fr H' al => match e with
        | .normal => resK T fn.results.toList fr H' fun vs => K (retV vs) H' al
        | .ret => resK T fn.results.toList fr H' fun vs => K (retV vs) H' al
        | _ => False
    else False

section
variable {P : Program} {T : Tab} {A : Ann} {yl : Option YG} {y : Value} {n : Nat} {B : Nat}

theorem Agr.left {a b : List Nat} {x z : Fr} (h : Agr a x z) : Agr (a ++ b) x z := h.mono fun _ hi => List.mem_append_left _ hi
theorem Agr.right {a b : List Nat} {x z : Fr} (h : Agr b x z) : Agr (a ++ b) x z := h.mono fun _ hi => List.mem_append_right _ hi

theorem get_drop_eq {ms : List Nat} {i : Nat} (hi : i ∉ ms) : ∀ (fr : Fr), (fr.drop ms).get i = fr.get i
  | [] => rfl
  | (j, z) :: r => by
    unfold Fr.drop
    rw [List.filter_cons]
    have ih := get_drop_eq hi r
    unfold Fr.drop at ih
    cases hm : ms.any (Nat.beq j) with
    | true =>
      simp only [Bool.not_true, Bool.false_eq_true, if_false]
      have hne : Nat.beq j i = false := by
        cases hb : Nat.beq j i with
        | false => rfl
        | true =>
          have := Nat.eq_of_beq_eq_true hb
          subst this
          obtain ⟨m, hm1, hm2⟩ := List.any_eq_true.1 hm
          have := Nat.eq_of_beq_eq_true hm2
          subst this
          exact absurd hm1 hi
      simp only [Fr.get, hne, cond_false]
      exact ih
    | false =>
      simp only [Bool.not_false, if_true, Fr.get]
      cases hb : Nat.beq j i with
      | true => rfl
      | false => exact ih

theorem get_setAll_ne {i : Nat} : ∀ (is : List Nat) (vs : List Value) (fr : Fr), i ∉ is → (Fr.setAll fr is vs).get i = fr.get i
  | [], vs, fr, _ => by cases vs <;> rfl
  | _ :: _, [], _, _ => rfl
  | j :: is, v :: vs, fr, h => by
    simp only [Fr.setAll]
    rw [get_setAll_ne is vs _ (fun e => h (by simp [e]))]
    have hne : Nat.beq j i = false := by
      cases hb : Nat.beq j i with
      | false => rfl
      | true => exact absurd (by simp [Nat.eq_of_beq_eq_true hb]) h
    simp [Fr.get, hne]

theorem snd_loop {c : Code} (ih : Snd P T A yl y n B c) : Snd P T A yl y n B (.loop c) := by
  intro C Inv ro S bid fr al a w K h hS hC
  simp only [vc] at h
  split at h <;> try exact h.elim
  rename_i vars hv
  cases hall : vars.all (fun p => (mods c).any (Nat.beq p.1)) with
  | false => rw [hall] at h; exact h.elim
  | true =>
    rw [hall] at h
    simp only [cond_true] at h
    obtain ⟨I, μ, h0, hr⟩ := h
    split at h0 <;> try exact h0.elim
    rename_i vs hvs
    split at h0 <;> try exact h0.elim
    rename_i fs hfs
    obtain ⟨e1, e2⟩ := getVals_spec hS hvs
    generalize his : vars.map (·.1) = is at *
    have hism : ∀ i, i ∈ is → i ∈ mods c := by
      intro i hi
      rw [← his] at hi
      obtain ⟨p, hp, rfl⟩ := List.mem_map.1 hi
      obtain ⟨m, hm1, hm2⟩ := List.any_eq_true.1 (List.all_eq_true.1 hall p hp)
      rw [Nat.eq_of_beq_eq_true hm2]
      exact hm1
    let va : Act → List Value := fun a => is.map fun i => a.tmps.getD i undef
    have hlen : ∀ a, is.length = (va a).length := fun a => by simp [va]
    let hd : List Value → Fr := fun vs => Fr.setAll (fr.drop (mods c)) is vs
    have hdA : ∀ vs, Agr (mods c) fr (hd vs) := fun vs i hi => by
      show (Fr.setAll (fr.drop (mods c)) is vs).get i = fr.get i
      rw [get_setAll_ne is vs _ (fun e => hi (hism i e)), get_drop_eq hi]
    let IA : Act → World → Prop := fun a w => ∃ fs, flatV vars (va a) = some fs ∧ appP I fs (hp w) ∧ Sat y n (hd (va a)) a ∧ Ctx ro B C Inv .on a.defers w
    have happ : ∀ (vs : List Value) (H : Hp), appP I vs H → ∃ i, FT.app _ I vs = some i := by
      intro vs H h
      unfold appP at h
      split at h
      · exact ⟨_, by assumption⟩
      · exact h.elim
    refine wpIn_loop IA (fun a w => appN μ ((flatV vars (va a)).getD []) (hp w)) ⟨fs, ?_, h0, ?_, hC⟩ ?_
    · rw [e1] at hfs; exact hfs
    · refine sat_head hS.1 (fun i x hi hx _ => hS.2 i x hx) ?_ (hlen a)
      intro k i v hk hx
      rw [e1] at e2
      exact e2 k i v hk hx
    · rintro a1 w1 ⟨fs1, g0, g1, g2, g3⟩
      obtain ⟨i, hi⟩ := happ _ _ g1
      have hb := all_app hr hi (hp w1) g1
      rw [unflat_flat g0] at hb
      have hw := ih C Inv ro S bid _ .on a1 w1 _ hb g2 g3
      refine wpIn_mono hw ?_
      rintro e a2 w2 ⟨fr2, al2, s1, s2, s3, s4⟩
      have hA : Agr (mods c) fr fr2 := (hdA _).trans s4
      cases e with
      | normal =>
        cases al2 with
        | off e up => exact s2.elim
        | on =>
          simp only at s2
          split at s2 <;> try exact s2.elim
          rename_i vs' hvs'
          split at s2 <;> try exact s2.elim
          rename_i fs' hfs'
          obtain ⟨f1, f2⟩ := getVals_spec s1 hvs'
          rw [f1] at hfs' f2
          have g0' : (flatV vars (va a1)).getD [] = fs1 := by rw [g0]; rfl
          have h2' : (flatV vars (va a2)).getD [] = fs' := by
            show (flatV vars (is.map fun i => a2.tmps.getD i undef)).getD [] = fs'
            rw [hfs']; rfl
          refine ⟨⟨fs', hfs', s2.1, sat_head s1.1 (fun j x hj hx _ => s1.2 j x ?_) f2 (hlen a2), s3⟩, ?_⟩
          · rw [hA j hj]
            exact hx
          · show appN μ ((flatV vars (va a2)).getD []) (hp w2) < appN μ ((flatV vars (va a1)).getD []) (hp w1)
            rw [g0', h2']
            exact s2.2
      | exit id => exact ⟨fr2, al2, s1, s2, s3, hA⟩
      | ret => exact ⟨fr2, al2, s1, s2, s3, hA⟩
      | goto l => exact ⟨fr2, al2, s1, s2, s3, hA⟩
      | panic ch => exact ⟨fr2, al2, s1, s2, s3, hA⟩
      | outgrown => exact ⟨fr2, al2, s1, s2, s3, hA⟩

/-- **All code.** -/
theorem vc_sound (hmix : P.follows .mixedOrders = true) (hT : TOk P T) : ∀ c, Snd P T A yl y n B c
  | .skip => fun _ _ _ _ _ fr al _ _ _ h hS hC => wpIn_skip ⟨fr, al, hS, h, hC, Agr.refl _ _⟩
  | .label _ => fun _ _ _ _ _ fr al _ _ _ h hS hC => wpIn_label ⟨fr, al, hS, h, hC, Agr.refl _ _⟩
  | .exit _ => fun _ _ _ _ _ fr al _ _ _ h hS hC => wpIn_exit ⟨fr, al, hS, h, hC, Agr.refl _ _⟩
  | .ret => fun _ _ _ _ _ fr al _ _ _ h hS hC => wpIn_ret ⟨fr, al, hS, h, hC, Agr.refl _ _⟩
  | .goto _ => fun _ _ _ _ _ _ _ _ _ _ h _ _ => h.elim
  | .refuse _ => fun _ _ _ _ _ _ _ _ _ _ h _ _ => h.elim
  | .region id ops draw => fun C Inv ro S bid fr al a w K h hS hC => by
    refine wpIn_mono (Q := fun e a' w' => match e with | .normal => QA y n ro B C Inv (mods (.region id ops draw)) fr K .normal a' w' | _ => False)
      (vcReg_sound (n := n) hmix S hT (fun _ _ _ h => h) (fun fr' _ al' _ h1 h2 h3 h4 => ⟨fr', al', h1, h2, h3, h4⟩) h hS hC) ?_
    intro e a' w' he
    cases e <;> first | exact he | exact he.elim
  | .seq c d => fun C Inv ro S bid fr al a w K h hS hC => by
    have ih1 := vc_sound hmix hT c
    have ih2 := vc_sound hmix hT d
    refine wpIn_seq (wpIn_mono (ih1 C Inv ro S bid fr al a w _ h hS hC) ?_)
    rintro e a1 w1 ⟨fr1, al1, s1, s2, s3, s4⟩
    cases e with
    | normal =>
      refine wpIn_mono (ih2 C Inv ro S bid fr1 al1 a1 w1 K s2 s1 s3) ?_
      rintro e a2 w2 ⟨fr2, al2, t1, t2, t3, t4⟩
      exact ⟨fr2, al2, t1, t2, t3, s4.left.trans t4.right⟩
    | exit id => exact ⟨fr1, al1, s1, s2, s3, s4.left⟩
    | ret => exact ⟨fr1, al1, s1, s2, s3, s4.left⟩
    | goto l => exact ⟨fr1, al1, s1, s2, s3, s4.left⟩
    | panic ch => exact ⟨fr1, al1, s1, s2, s3, s4.left⟩
    | outgrown => exact ⟨fr1, al1, s1, s2, s3, s4.left⟩
  | .cond q c d => fun C Inv ro S bid fr al a w K h hS hC => by
    have ih1 := vc_sound hmix hT c
    have ih2 := vc_sound hmix hT d
    simp only [vc] at h
    split at h <;> try exact h.elim
    rename_i t ht
    have hc := ev_eval hS ht
    rcases bc_elim h with ⟨rfl, h⟩ | ⟨rfl, h⟩
    · refine wpIn_cond_true hc (wpIn_mono (ih1 C Inv ro S bid fr al a w K h hS hC) ?_)
      rintro e a1 w1 ⟨fr1, al1, s1, s2, s3, s4⟩
      exact ⟨fr1, al1, s1, s2, s3, s4.left⟩
    · refine wpIn_cond_false hc (wpIn_mono (ih2 C Inv ro S bid fr al a w K h hS hC) ?_)
      rintro e a1 w1 ⟨fr1, al1, s1, s2, s3, s4⟩
      exact ⟨fr1, al1, s1, s2, s3, s4.right⟩
  | .block id c => fun C Inv ro S _ fr al a w K h hS hC => by
    have ih := vc_sound hmix hT c
    refine wpIn_block (wpIn_mono (ih C Inv ro S id fr al a w _ h hS hC) ?_)
    rintro e a1 w1 ⟨fr1, al1, s1, s2, s3, s4⟩
    cases e with
    | exit id' =>
      simp only at s2
      simp only [Exit.inBlock]
      cases hb : Nat.beq id' id with
      | true =>
        rw [hb] at s2
        rw [if_pos (Nat.eq_of_beq_eq_true hb)]
        exact ⟨fr1, al1, s1, s2, s3, s4⟩
      | false =>
        rw [hb] at s2
        rw [if_neg (fun e => by rw [e, Nat.beq_refl] at hb; cases hb)]
        exact ⟨fr1, al1, s1, s2, s3, s4⟩
    | normal => exact ⟨fr1, al1, s1, s2, s3, s4⟩
    | ret => exact ⟨fr1, al1, s1, s2, s3, s4⟩
    | goto l => exact ⟨fr1, al1, s1, s2, s3, s4⟩
    | panic ch => exact ⟨fr1, al1, s1, s2, s3, s4⟩
    | outgrown => exact ⟨fr1, al1, s1, s2, s3, s4⟩
  | .scope c => fun C Inv ro S bid fr al a w K h hS hC => by
    have ih := vc_sound hmix hT c
    refine wpIn_scope (wpIn_mono (ih C Inv ro S bid fr al a w _ h hS hC) ?_)
    rintro e a1 w1 ⟨fr1, al1, s1, s2, s3, s4⟩
    cases e with
    | goto l => exact s2.elim
    | normal => exact ⟨fun l => by simp, fr1, al1, s1, s2, s3, s4⟩
    | ret => exact ⟨fun l => by simp, fr1, al1, s1, s2, s3, s4⟩
    | exit id => exact ⟨fun l => by simp, fr1, al1, s1, s2, s3, s4⟩
    | panic ch => exact ⟨fun l => by simp, fr1, al1, s1, s2, s3, s4⟩
    | outgrown => exact ⟨fun l => by simp, fr1, al1, s1, s2, s3, s4⟩
  | .loop c => snd_loop (vc_sound hmix hT c)
  | .rangeFunc _ _ c d => snd_rangeFunc (vc_sound hmix hT c) (vc_sound hmix hT d)


theorem run_takeDeferred' {w : World} {r : Nat} (h : w.heap[r]? = some (.deferred (some []))) : (Instr.takeDeferred r).run P w = .ok [] { w with heap := w.heap.setIfInBounds r (.deferred none) } := by
  simp [Instr.takeDeferred, getObj, setObj, Sem.run, h]

theorem leaves_marks {C : Nat} {fn : Func} {tmps : Array Value} {R : Ending → World → Prop} {Z : World → Prop} (hZ : ∀ w r, Z w → C ≤ r → w.heap[r]? = some (.deferred (some [])) → Z { w with heap := w.heap.setIfInBounds r (.deferred none) })
    (hend : ∀ w, Z w → ∃ v, (results fn tmps).run P w = .ok v w ∧ R (.returned v) w) :
    ∀ (rs : List Nat) (w : World), rs.Nodup → (∀ r ∈ rs, C ≤ r ∧ w.heap[r]? = some (.deferred (some []))) → Z w → LeavesInM Fence.wide 0 P fn tmps R (rs.map markOf) .returning w
  | [], w, _, _, hz => hend w hz
  | r :: rs, w, hn, hr, hz => by
    obtain ⟨hn1, hn2⟩ := List.nodup_cons.1 hn
    obtain ⟨h1, h2⟩ := hr r (by simp)
    refine ⟨by simp, .inl ⟨r, _, rfl, run_takeDeferred' h2, ?_⟩⟩
    refine leaves_marks hZ hend rs _ hn2 (fun x hx => ?_) (hZ w r hz h1 h2)
    obtain ⟨g1, g2⟩ := hr x (by simp [hx])
    refine ⟨g1, ?_⟩
    have hne : x ≠ r := fun e => hn1 (by rw [← e]; exact hx)
    rw [setObj_ne hne]
    exact g2

theorem run_loadVar_sh {t : TypeId} {te : TE} {b o : Nat} {v : Value} {w : World} (hT : TSpec P t te) (hd : te.d = .sc ∨ ∃ e, te.d = .sl e) (h : rd (hp w) b o = some v) : (loadVar t ⟨b, o, none⟩).run P w = .ok v w := by
  obtain ⟨_, _, ti, d, hti, hu, hsz, _, hh⟩ := hT
  have ha : (isAgg t).run P w = .ok false w := by
    rcases hd with hd | ⟨e, hd⟩
    · rw [hd] at hh
      obtain ⟨_, s', z, hs', hsd, _⟩ := hh
      exact run_isAgg_sc hu hsd
    · rw [hd] at hh
      obtain ⟨_, rfl, _⟩ := hh
      simp [isAgg, run_underlying hu]
  simp [loadVar, ha, cell_of_rd h]

theorem run_loadVar_st {t : TypeId} {te : TE} {b o : Nat} {vs : List Value} {w : World} {fs : List (Nat × TypeId)} (hT : TSpec P t te) (hd : te.d = .st fs) (hl : vs.length = te.sh.length) (h : ∀ i v, vs[i]? = some v → rd (hp w) b (o + i) = some v) :
    (loadVar t ⟨b, o, none⟩).run P w = .ok (.agg ⟨vs⟩) w := by
  obtain ⟨_, _, ti, d, hti, hu, hsz, _, hh⟩ := hT
  rw [hd] at hh
  obtain ⟨_, _, hl', fields, rfl, _⟩ := hh
  have := run_load_st (P := P) (w := w) (t := t) (b := b) (o := o) (vs := vs) hu hti (by omega) h
  simpa [Instr.loadAt, Instr.sureAddr] using this

/-- How one result is read. -/
def rdRes (tmps : Array Value) : ResultVar → Sem Value
  | .tmp t => pure (tmps.getD t undef)
  | .cell a t => do loadVar t (← asAddr (tmps.getD a undef))

theorem resK_run (hT : TOk P T) {a : Act} {w : World} {fr : Fr} (hS : Sat y n fr a) : ∀ {l : List ResultVar} {K : List Value → Prop}, resK T l fr (hp w) K →
    ∃ vs, (l.mapM (rdRes a.tmps)).run P w = .ok vs w ∧ K vs
  | [], K, h => ⟨[], rfl, h⟩
  | .tmp t :: r, K, h => by
    simp only [resK] at h
    split at h <;> try exact h.elim
    rename_i v hv
    obtain ⟨vs, h1, h2⟩ := resK_run hT hS h
    have h3 := hS.2 t _ hv
    simp only [avV] at h3
    refine ⟨v :: vs, ?_, h2⟩
    simp only [List.mapM_cons, rdRes, Sem.run_bind, Sem.run_pure, Result.andThen_ok, h1]
    simp [h3]
  | .cell x t :: r, K, h => by
    simp only [resK] at h
    split at h <;> try exact h.elim
    rename_i b o te hv hte
    have h3 := hS.2 x _ hv
    simp only [avV] at h3
    have fin : ∀ (v : Value), (loadVar t ⟨b, o, none⟩).run P w = .ok v w → resK T r fr (hp w) (fun vs => K (v :: vs)) → ∃ vs, ((ResultVar.cell x t :: r).mapM (rdRes a.tmps)).run P w = .ok vs w ∧ K vs := by
      intro v hl hk
      obtain ⟨vs, h1, h2⟩ := resK_run hT hS hk
      refine ⟨v :: vs, ?_, h2⟩
      have h4 : a.tmps.getD x undef = .pointer (some ⟨b, o, none⟩) := by simp [h3]
      simp only [List.mapM_cons, rdRes, Sem.run_bind, h4, asAddr, Sem.run_pure, Result.andThen_ok, hl, h1]
    split at h <;> try exact h.elim
    · rename_i hd
      split at h <;> try exact h.elim
      obtain ⟨v, h4, h5⟩ := ldSh_elim h
      exact fin v (run_loadVar_sh (hT _ _ hte) (.inl hd) h4) h5
    · rename_i e hd
      split at h <;> try exact h.elim
      obtain ⟨v, h4, h5⟩ := ldSh_elim h
      exact fin v (run_loadVar_sh (hT _ _ hte) (.inr ⟨e, hd⟩) h4) h5
    · rename_i fs hd
      obtain ⟨vs, h4, h5, h6⟩ := ldAgg_elim h
      exact fin _ (run_loadVar_st (hT _ _ hte) hd h4 h5) h6

theorem results_run (hT : TOk P T) {a : Act} {w : World} {fr : Fr} {fn : Func} {K : List Value → Prop} (hS : Sat y n fr a) (h : resK T fn.results.toList fr (hp w) K) :
    ∃ vs, (results fn a.tmps).run P w = .ok (retV vs) w ∧ K vs := by
  obtain ⟨vs, h1, h2⟩ := resK_run hT hS h
  refine ⟨vs, ?_, h2⟩
  have hm : (fn.results.mapM (rdRes a.tmps)).run P w = .ok ⟨vs⟩ w := by
    rw [Array.mapM_eq_mapM_toList, Sem.run_map, h1]
    rfl
  have hr : results fn a.tmps = (do
      let vs ← fn.results.mapM (rdRes a.tmps)
      pure (if h : vs.size = 1 then vs[0] else .tuple vs)) := by
    unfold results
    congr 2
  rw [hr, Sem.run_bind, hm]
  simp only [Result.andThen_ok, Sem.run_pure]
  congr 1
  match vs with
  | [] => rfl
  | [v] => rfl
  | _ :: _ :: _ => rfl

theorem initFr_get : ∀ (args : List AV) (i j : Nat) (x : AV), (initFr i args).get j = some x → i ≤ j ∧ args[j - i]? = some x
  | [], i, j, x, h => by simp [initFr, Fr.get] at h
  | z :: r, i, j, x, h => by
    simp only [initFr, Fr.get] at h
    cases hb : Nat.beq i j with
    | true =>
      rw [hb] at h
      have := Nat.eq_of_beq_eq_true hb
      subst this
      simpa using h
    | false =>
      rw [hb] at h
      obtain ⟨h1, h2⟩ := initFr_get r (i + 1) j x h
      refine ⟨by omega, ?_⟩
      rw [show j - i = (j - (i + 1)) + 1 by omega]
      simpa using h2

theorem sat_init {args : List AV} (h : args.length ≤ n) : Sat y n (initFr 0 args) { tmps := (⟨args.map (avV y)⟩ : Array Value) ++ Array.replicate (n - (⟨args.map (avV y)⟩ : Array Value).size) undef, defers := [] } := by
  have hsz : (⟨args.map (avV y)⟩ : Array Value).size = args.length := by simp
  refine ⟨by simp; omega, fun i x hx => ?_⟩
  obtain ⟨_, h2⟩ := initFr_get args 0 i x hx
  simp only [Nat.sub_zero] at h2
  have hi : i < args.length := (List.getElem?_eq_some_iff.1 h2).1
  show ((⟨args.map (avV y)⟩ : Array Value) ++ Array.replicate _ undef)[i]? = _
  rw [Array.getElem?_append_left (by rw [hsz]; exact hi)]
  simp [h2]

/-- What holds of a body, in whatever system. -/
theorem body_ok (hmix : P.follows .mixedOrders = true) (hT : TOk P T) {fn : Func} {c : Code} {C : Nat} {Inv : Al → World → Prop} (S : Sys P B C Inv y yl) {k : FuncId} (hf : P.funcs[k]? = some fn) (hb : fn.body = some c)
    {args : List AV} {w : World} {K : Value → Hp → Al → Prop} (hC : C ≤ w.heap.size) (hi : Inv .on w) (h : vcFun P T A yl fn args (hp w) K) :
    Calls P k ⟨args.map (avV y)⟩ w fun e w' => ∃ v al, e = .returned v ∧ K v (hp w') al ∧ Inv al w' := by
  unfold vcFun at h
  rw [hb] at h
  simp only at h
  cases hle : Nat.ble args.length fn.ntmps with
  | false => rw [hle] at h; exact h.elim
  | true =>
    rw [hle] at h
    simp only [cond_true] at h
    have hle' : args.length ≤ fn.ntmps := by simpa using hle
    refine (callsIn_wide (n := 0)).1 (callsIn_of_wp_marks (F := Fence.wide) hf hb trivial ?_)
    have hS := sat_init (y := y) hle'
    have hC0 : Ctx none B C Inv .on ([] : List Deferred) w := ⟨hi, hC, ⟨[], rfl, List.nodup_nil, fun r hr => by cases hr⟩, fun l r e => (by cases e), fun _ _ => rfl⟩
    have := vc_sound (A := A) (yl := yl) (y := y) (n := fn.ntmps) (B := B) hmix hT c C Inv none S 0 _ .on _ w _ h hS hC0
    refine wpIn_mono this ?_
    rintro e a w1 ⟨fr, al, s1, s2, s3, _⟩
    have fin : resK T fn.results.toList fr (hp w1) (fun vs => K (retV vs) (hp w1) al) → LeavesInM Fence.wide 0 P fn a.tmps (fun e w' => ∃ v al, e = .returned v ∧ K v (hp w') al ∧ Inv al w') a.defers .returning w1 := by
      intro hk
      obtain ⟨rs, g1, g2, g3⟩ := s3.dfs
      rw [g1]
      refine leaves_marks (C := C) (Z := fun W => hp W = hp w1 ∧ Inv al W) ?_ ?_ rs w1 g2 g3 ⟨rfl, s3.inv⟩
      · rintro W r ⟨z1, z2⟩ hr hh
        exact ⟨by rw [hp_setObj hh rfl rfl]; exact z1, S.st _ _ _ z2 (Lt.setObj _ hr)⟩
      · rintro W ⟨z1, z2⟩
        rw [← z1] at hk
        obtain ⟨vs, q1, q2⟩ := results_run hT s1 hk
        exact ⟨_, q1, _, al, rfl, q2, z2⟩
    cases e with
    | normal => exact fin s2
    | ret => exact fin s2
    | exit id => exact s2.elim
    | goto l => exact s2.elim
    | panic ch => exact s2.elim
    | outgrown => exact s2.elim

theorem Ge.lt_trans {w0 w w' : World} (h : Ge B w0 w) (hl : Lt w0.heap.size w w') : Ge B w0 w' :=
  ⟨Nat.le_trans h.size hl.size, fun b h1 h2 h3 => by
    have h4 := h.keep b h1 h2 h3
    rw [hl.keep b h2 (Nat.lt_of_lt_of_le h2 h.size) (by rw [hp_of_same h4]; exact h3), h4], hl.tape.trans h.tape, hl.os.trans h.os, hl.output.trans h.output, fun b h1 h2 => (h.tags b h1 h2).trans (hl.tags b h2 (Nat.lt_of_lt_of_le h2 h.size))⟩

theorem vcFun_body {fn : Func} {args : List AV} {H : Hp} {K : Value → Hp → Al → Prop} (h : vcFun P T A yl fn args H K) : ∃ c, fn.body = some c := by
  unfold vcFun at h
  split at h
  · exact h.elim
  · rename_i c hc; exact ⟨c, hc⟩

/-- **A function's contract.** -/
theorem CallH_of_vc (hmix : P.follows .mixedOrders = true) (hT : TOk P T) {fn : Func} {k : FuncId} (hf : P.funcs[k]? = some fn) (hn : (fn.name == "runtime.NumGoroutine") = false) {args : List Value} {H : Hp} {K : Value → Hp → Prop}
    (h : vcFun P T A none fn (args.map .v) H fun v H' _ => K v H') : CallH P k args H K := by
  obtain ⟨c, hb⟩ := vcFun_body h
  rintro w rfl
  refine .inl ⟨⟨fn, hf, by rw [hb]; rfl, hn⟩, ?_⟩
  have S : Sys P 0 w.heap.size (fun _ w' => Ge 0 w w') undef none := ⟨Nat.zero_le _, fun _ _ _ h hl => h.lt_trans hl, fun G hG => by cases hG⟩
  have := body_ok hmix hT S hf hb (Nat.le_refl _) (Ge.refl _ _) h
  have e : (args.map AV.v).map (avV undef) = args := by rw [List.map_map]; exact List.map_id args
  rw [e] at this
  refine this.mono ?_
  rintro e w' ⟨v, al, rfl, hk, hg⟩
  exact ⟨v, rfl, hk, hg⟩

/-- **An iterator's contract.** -/
theorem ITER_of_vc (hmix : P.follows .mixedOrders = true) (hT : TOk P T) {fn : Func} {k : FuncId} (hf : P.funcs[k]? = some fn) (hn : (fn.name == "runtime.NumGoroutine") = false) {pre post : List Value} {H : Hp} {G : GT} {K : Al → Hp → Prop}
    (h : ∀ L, vcFun P T A (some ⟨L, G⟩) fn (pre.map .v ++ (.Y :: post.map .v)) H fun _ H' al => K al H') : ITER P k pre post H G K := by
  obtain ⟨c, hb⟩ := vcFun_body (h 0)
  refine ⟨⟨fn, hf, by rw [hb]; rfl, hn⟩, ?_⟩
  rintro w L X rfl hL hst hX hY
  have S : Sys P (L + 1) w.heap.size (fun al w' => X al w' ∧ Ge (L + 1) w w') (yv L) (some ⟨L, G⟩) :=
    ⟨hL, fun al w1 w2 h hl => ⟨hst _ _ _ h.1 (hl.mono hL), h.2.lt_trans hl⟩, fun G' hG => by
      cases hG
      exact ⟨rfl, hY.and⟩⟩
  have := body_ok hmix hT S hf hb (Nat.le_refl _) ⟨hX, Ge.refl _ _⟩ (h L)
  have e0 : ∀ l : List Value, (l.map AV.v).map (avV (yv L)) = l := fun l => by rw [List.map_map]; exact List.map_id l
  have e : (pre.map AV.v ++ (AV.Y :: post.map AV.v)).map (avV (yv L)) = pre ++ (yv L :: post) := by rw [List.map_append, List.map_cons, e0, e0]; rfl
  rw [e] at this
  refine this.mono ?_
  rintro e w' ⟨v, al, rfl, hk, hx, hg⟩
  exact ⟨v, al, rfl, hk, hx, hg⟩

end
end Go.V
