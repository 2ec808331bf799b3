/- Contracts and plain laws that the claim rests on, for every input: no condition. -/
import Derived.Test.YtbpbgkpkkklipaaGreatZ1
import Derived.Below
import Derived.Laws.Append
import Derived.Sort.AssemblyPlain
import Derived.Lib.UnsafeStr
import Derived.Lib.MakeNoZero
import Derived.Lib.Bytealg
import Derived.Lib.Builder
import Derived.Laws.Externs
import Derived.ProofKit
import Derived.Deep.SlicePairs
import Derived.Deep.Slices
import Derived.DataReads
import Derived.MapKept
import Derived.Laws.IdiomRangeMap
import Derived.Test.YtbpbgkpkkklipaaGreatProg
namespace Go.V
set_option linter.unusedSectionVars false
variable [Sp]

def resK (T : Tab) : List ResultVar → Fr → Hp → (List Value → Prop) → Prop
  | [], _, _, K => K []
  | .tmp t :: r, fr, H, K => match fr.get t with
    | some (.v v) => resK T r fr H fun vs => K (v :: vs)
    | _ => False
  | .cell a t :: r, fr, H, K => match fr.get a, T t with
    | some (.v (.pointer (some ⟨b, o, none⟩))), some te => match te.d with
      | .sc | .sl _ => match te.sh with
        | [s] => ldSh s (rd H b o) fun v => resK T r fr H fun vs => K (v :: vs)
        | _ => False
      | .st _ => ldAgg H b o te.sh fun xs => resK T r fr H fun vs => K (.agg ⟨xs⟩ :: vs)
      | _ => False
    | _, _ => False

def retV : List Value → Value
  | [v] => v
  | vs => .tuple ⟨vs⟩

def initFr : Nat → List AV → Fr
  | _, [] => []
  | i, x :: r => (i, x) :: initFr (i + 1) r

/-- What a function asks. -/
def vcFun (P : Program) (T : Tab) (A : Ann) (yl : Option YG) (fn : Func) (args : List AV) (H : Hp) (K : Value → Hp → Al → Prop) : Prop :=
  match fn.body with
  | none => False
  | some c => bif Nat.ble args.length fn.ntmps then
      vc P T A yl fn.ntmps c 0 (initFr 0 args) H .on fun e fr H' al => match e with
        | .normal => resK T fn.results.toList fr H' fun vs => K (retV vs) H' al
        | .ret => resK T fn.results.toList fr H' fun vs => K (retV vs) H' al
        | _ => False
    else False

section
variable {P : Program} {T : Tab} {A : Ann} {yl : Option YG} {y : Value} {n : Nat} {B : Nat}

theorem Agr.left {a b : List Nat} {x z : Fr} (h : Agr a x z) : Agr (a ++ b) x z := h.mono fun _ hi => List.mem_append_left _ hi
theorem Agr.right {a b : List Nat} {x z : Fr} (h : Agr b x z) : Agr (a ++ b) x z := h.mono fun _ hi => List.mem_append_right _ hi

theorem get_drop_eq {ms : List Nat} {i : Nat} (hi : i ∉ ms) : ∀ (fr : Fr), (fr.drop ms).get i = fr.get i
  | [] => rfl
  | (j, z) :: r => by
    unfold Fr.drop
    rw [List.filter_cons]
    have ih := get_drop_eq hi r
    unfold Fr.drop at ih
    cases hm : ms.any (Nat.beq j) with
    | true =>
      simp only [Bool.not_true, Bool.false_eq_true, if_false]
      have hne : Nat.beq j i = false := by
        cases hb : Nat.beq j i with
        | false => rfl
        | true =>
          have := Nat.eq_of_beq_eq_true hb
          subst this
          obtain ⟨m, hm1, hm2⟩ := List.any_eq_true.1 hm
          have := Nat.eq_of_beq_eq_true hm2
          subst this
          exact absurd hm1 hi
      simp only [Fr.get, hne, cond_false]
      exact ih
    | false =>
      simp only [Bool.not_false, if_true, Fr.get]
      cases hb : Nat.beq j i with
      | true => rfl
      | false => exact ih

theorem get_setAll_ne {i : Nat} : ∀ (is : List Nat) (vs : List Value) (fr : Fr), i ∉ is → (Fr.setAll fr is vs).get i = fr.get i
  | [], vs, fr, _ => by cases vs <;> rfl
  | _ :: _, [], _, _ => rfl
  | j :: is, v :: vs, fr, h => by
    simp only [Fr.setAll]
    rw [get_setAll_ne is vs _ (fun e => h (by simp [e]))]
    have hne : Nat.beq j i = false := by
      cases hb : Nat.beq j i with
      | false => rfl
      | true => exact absurd (by simp [Nat.eq_of_beq_eq_true hb]) h
    simp [Fr.get, hne]

theorem snd_loop {c : Code} (ih : Snd P T A yl y n B c) : Snd P T A yl y n B (.loop c) := by
  intro C Inv ro S bid fr al a w K h hS hC
  simp only [vc] at h
  split at h <;> try exact h.elim
  rename_i vars hv
  cases hall : vars.all (fun p => (mods c).any (Nat.beq p.1)) with
  | false => rw [hall] at h; exact h.elim
  | true =>
    rw [hall] at h
    simp only [cond_true] at h
    obtain ⟨I, μ, h0, hr⟩ := h
    split at h0 <;> try exact h0.elim
    rename_i vs hvs
    split at h0 <;> try exact h0.elim
    rename_i fs hfs
    obtain ⟨e1, e2⟩ := getVals_spec hS hvs
    generalize his : vars.map (·.1) = is at *
    have hism : ∀ i, i ∈ is → i ∈ mods c := by
      intro i hi
      rw [← his] at hi
      obtain ⟨p, hp, rfl⟩ := List.mem_map.1 hi
      obtain ⟨m, hm1, hm2⟩ := List.any_eq_true.1 (List.all_eq_true.1 hall p hp)
      rw [Nat.eq_of_beq_eq_true hm2]
      exact hm1
    let va : Act → List Value := fun a => is.map fun i => a.tmps.getD i undef
    have hlen : ∀ a, is.length = (va a).length := fun a => by simp [va]
    let hd : List Value → Fr := fun vs => Fr.setAll (fr.drop (mods c)) is vs
    have hdA : ∀ vs, Agr (mods c) fr (hd vs) := fun vs i hi => by
      show (Fr.setAll (fr.drop (mods c)) is vs).get i = fr.get i
      rw [get_setAll_ne is vs _ (fun e => hi (hism i e)), get_drop_eq hi]
    let IA : Act → World → Prop := fun a w => ∃ fs, flatV vars (va a) = some fs ∧ appP I fs (hp w) ∧ Sat y n (hd (va a)) a ∧ Ctx ro B C Inv .on a.defers w
    have happ : ∀ (vs : List Value) (H : Hp), appP I vs H → ∃ i, FT.app _ I vs = some i := by
      intro vs H h
      unfold appP at h
      split at h
      · exact ⟨_, by assumption⟩
      · exact h.elim
    refine wpIn_loop IA (fun a w => appN μ ((flatV vars (va a)).getD []) (hp w)) ⟨fs, ?_, h0, ?_, hC⟩ ?_
    · rw [e1] at hfs; exact hfs
    · refine sat_head hS.1 (fun i x hi hx _ => hS.2 i x hx) ?_ (hlen a)
      intro k i v hk hx
      rw [e1] at e2
      exact e2 k i v hk hx
    · rintro a1 w1 ⟨fs1, g0, g1, g2, g3⟩
      obtain ⟨i, hi⟩ := happ _ _ g1
      have hb := all_app hr hi (hp w1) g1
      rw [unflat_flat g0] at hb
      have hw := ih C Inv ro S bid _ .on a1 w1 _ hb g2 g3
      refine wpIn_mono hw ?_
      rintro e a2 w2 ⟨fr2, al2, s1, s2, s3, s4⟩
      have hA : Agr (mods c) fr fr2 := (hdA _).trans s4
      cases e with
      | normal =>
        cases al2 with
        | off e up => exact s2.elim
        | on =>
          simp only at s2
          split at s2 <;> try exact s2.elim
          rename_i vs' hvs'
          split at s2 <;> try exact s2.elim
          rename_i fs' hfs'
          obtain ⟨f1, f2⟩ := getVals_spec s1 hvs'
          rw [f1] at hfs' f2
          have g0' : (flatV vars (va a1)).getD [] = fs1 := by rw [g0]; rfl
          have h2' : (flatV vars (va a2)).getD [] = fs' := by
            show (flatV vars (is.map fun i => a2.tmps.getD i undef)).getD [] = fs'
            rw [hfs']; rfl
          refine ⟨⟨fs', hfs', s2.1, sat_head s1.1 (fun j x hj hx _ => s1.2 j x ?_) f2 (hlen a2), s3⟩, ?_⟩
          · rw [hA j hj]
            exact hx
          · show appN μ ((flatV vars (va a2)).getD []) (hp w2) < appN μ ((flatV vars (va a1)).getD []) (hp w1)
            rw [g0', h2']
            exact s2.2
      | exit id => exact ⟨fr2, al2, s1, s2, s3, hA⟩
      | ret => exact ⟨fr2, al2, s1, s2, s3, hA⟩
      | goto l => exact ⟨fr2, al2, s1, s2, s3, hA⟩
      | panic ch => exact ⟨fr2, al2, s1, s2, s3, hA⟩
      | outgrown => exact ⟨fr2, al2, s1, s2, s3, hA⟩

/-- **All code.** -/
theorem vc_sound (hmix : P.follows .mixedOrders = true) (hT : TOk P T) : ∀ c, Snd P T A yl y n B c
  | .skip => fun _ _ _ _ _ fr al _ _ _ h hS hC => wpIn_skip ⟨fr, al, hS, h, hC, Agr.refl _ _⟩
  | .label _ => fun _ _ _ _ _ fr al _ _ _ h hS hC => wpIn_label ⟨fr, al, hS, h, hC, Agr.refl _ _⟩
  | .exit _ => fun _ _ _ _ _ fr al _ _ _ h hS hC => wpIn_exit ⟨fr, al, hS, h, hC, Agr.refl _ _⟩
  | .ret => fun _ _ _ _ _ fr al _ _ _ h hS hC => wpIn_ret ⟨fr, al, hS, h, hC, Agr.refl _ _⟩
  | .goto _ => fun _ _ _ _ _ _ _ _ _ _ h _ _ => h.elim
  | .refuse _ => fun _ _ _ _ _ _ _ _ _ _ h _ _ => h.elim
  | .region id ops draw => fun C Inv ro S bid fr al a w K h hS hC => by
    refine wpIn_mono (Q := fun e a' w' => match e with | .normal => QA y n ro B C Inv (mods (.region id ops draw)) fr K .normal a' w' | _ => False)
      (vcReg_sound (n := n) hmix S hT (fun _ _ _ h => h) (fun fr' _ al' _ h1 h2 h3 h4 => ⟨fr', al', h1, h2, h3, h4⟩) h hS hC) ?_
    intro e a' w' he
    cases e <;> first | exact he | exact he.elim
  | .seq c d => fun C Inv ro S bid fr al a w K h hS hC => by
    have ih1 := vc_sound hmix hT c
    have ih2 := vc_sound hmix hT d
    refine wpIn_seq (wpIn_mono (ih1 C Inv ro S bid fr al a w _ h hS hC) ?_)
    rintro e a1 w1 ⟨fr1, al1, s1, s2, s3, s4⟩
    cases e with
    | normal =>
      refine wpIn_mono (ih2 C Inv ro S bid fr1 al1 a1 w1 K s2 s1 s3) ?_
      rintro e a2 w2 ⟨fr2, al2, t1, t2, t3, t4⟩
      exact ⟨fr2, al2, t1, t2, t3, s4.left.trans t4.right⟩
    | exit id => exact ⟨fr1, al1, s1, s2, s3, s4.left⟩
    | ret => exact ⟨fr1, al1, s1, s2, s3, s4.left⟩
    | goto l => exact ⟨fr1, al1, s1, s2, s3, s4.left⟩
    | panic ch => exact ⟨fr1, al1, s1, s2, s3, s4.left⟩
    | outgrown => exact ⟨fr1, al1, s1, s2, s3, s4.left⟩
  | .cond q c d => fun C Inv ro S bid fr al a w K h hS hC => by
    have ih1 := vc_sound hmix hT c
    have ih2 := vc_sound hmix hT d
    simp only [vc] at h
    split at h <;> try exact h.elim
    rename_i t ht
    have hc := ev_eval hS ht
    rcases bc_elim h with ⟨rfl, h⟩ | ⟨rfl, h⟩
    · refine wpIn_cond_true hc (wpIn_mono (ih1 C Inv ro S bid fr al a w K h hS hC) ?_)
      rintro e a1 w1 ⟨fr1, al1, s1, s2, s3, s4⟩
      exact ⟨fr1, al1, s1, s2, s3, s4.left⟩
    · refine wpIn_cond_false hc (wpIn_mono (ih2 C Inv ro S bid fr al a w K h hS hC) ?_)
      rintro e a1 w1 ⟨fr1, al1, s1, s2, s3, s4⟩
      exact ⟨fr1, al1, s1, s2, s3, s4.right⟩
  | .block id c => fun C Inv ro S _ fr al a w K h hS hC => by
    have ih := vc_sound hmix hT c
    refine wpIn_block (wpIn_mono (ih C Inv ro S id fr al a w _ h hS hC) ?_)
    rintro e a1 w1 ⟨fr1, al1, s1, s2, s3, s4⟩
    cases e with
    | exit id' =>
      simp only at s2
      simp only [Exit.inBlock]
      cases hb : Nat.beq id' id with
      | true =>
        rw [hb] at s2
        rw [if_pos (Nat.eq_of_beq_eq_true hb)]
        exact ⟨fr1, al1, s1, s2, s3, s4⟩
      | false =>
        rw [hb] at s2
        rw [if_neg (fun e => by rw [e, Nat.beq_refl] at hb; cases hb)]
        exact ⟨fr1, al1, s1, s2, s3, s4⟩
    | normal => exact ⟨fr1, al1, s1, s2, s3, s4⟩
    | ret => exact ⟨fr1, al1, s1, s2, s3, s4⟩
    | goto l => exact ⟨fr1, al1, s1, s2, s3, s4⟩
    | panic ch => exact ⟨fr1, al1, s1, s2, s3, s4⟩
    | outgrown => exact ⟨fr1, al1, s1, s2, s3, s4⟩
  | .scope c => fun C Inv ro S bid fr al a w K h hS hC => by
    have ih := vc_sound hmix hT c
    refine wpIn_scope (wpIn_mono (ih C Inv ro S bid fr al a w _ h hS hC) ?_)
    rintro e a1 w1 ⟨fr1, al1, s1, s2, s3, s4⟩
    cases e with
    | goto l => exact s2.elim
    | normal => exact ⟨fun l => by simp, fr1, al1, s1, s2, s3, s4⟩
    | ret => exact ⟨fun l => by simp, fr1, al1, s1, s2, s3, s4⟩
    | exit id => exact ⟨fun l => by simp, fr1, al1, s1, s2, s3, s4⟩
    | panic ch => exact ⟨fun l => by simp, fr1, al1, s1, s2, s3, s4⟩
    | outgrown => exact ⟨fun l => by simp, fr1, al1, s1, s2, s3, s4⟩
  | .loop c => snd_loop (vc_sound hmix hT c)
  | .rangeFunc _ _ c d => snd_rangeFunc (vc_sound hmix hT c) (vc_sound hmix hT d)


theorem run_takeDeferred' {w : World} {r : Nat} (h : w.heap[r]? = some (.deferred (some []))) : (Instr.takeDeferred r).run P w = .ok [] { w with heap := w.heap.setIfInBounds r (.deferred none) } := by
  simp [Instr.takeDeferred, getObj, setObj, Sem.run, h]

theorem leaves_marks {C : Nat} {fn : Func} {tmps : Array Value} {R : Ending → World → Prop} {Z : World → Prop} (hZ : ∀ w r, Z w → C ≤ r → w.heap[r]? = some (.deferred (some [])) → Z { w with heap := w.heap.setIfInBounds r (.deferred none) })
    (hend : ∀ w, Z w → ∃ v, (results fn tmps).run P w = .ok v w ∧ R (.returned v) w) :
    ∀ (rs : List Nat) (w : World), rs.Nodup → (∀ r ∈ rs, C ≤ r ∧ w.heap[r]? = some (.deferred (some []))) → Z w → LeavesInM Fence.wide 0 P fn tmps R (rs.map markOf) .returning w
  | [], w, _, _, hz => hend w hz
  | r :: rs, w, hn, hr, hz => by
    obtain ⟨hn1, hn2⟩ := List.nodup_cons.1 hn
    obtain ⟨h1, h2⟩ := hr r (by simp)
    refine ⟨by simp, .inl ⟨r, _, rfl, run_takeDeferred' h2, ?_⟩⟩
    refine leaves_marks hZ hend rs _ hn2 (fun x hx => ?_) (hZ w r hz h1 h2)
    obtain ⟨g1, g2⟩ := hr x (by simp [hx])
    refine ⟨g1, ?_⟩
    have hne : x ≠ r := fun e => hn1 (by rw [← e]; exact hx)
    rw [setObj_ne hne]
    exact g2

theorem run_loadVar_sh {t : TypeId} {te : TE} {b o : Nat} {v : Value} {w : World} (hT : TSpec P t te) (hd : te.d = .sc ∨ ∃ e, te.d = .sl e) (h : rd (hp w) b o = some v) : (loadVar t ⟨b, o, none⟩).run P w = .ok v w := by
  obtain ⟨_, _, ti, d, hti, hu, hsz, _, hh⟩ := hT
  have ha : (isAgg t).run P w = .ok false w := by
    rcases hd with hd | ⟨e, hd⟩
    · rw [hd] at hh
      obtain ⟨_, s', z, hs', hsd, _⟩ := hh
      exact run_isAgg_sc hu hsd
    · rw [hd] at hh
      obtain ⟨_, rfl, _⟩ := hh
      simp [isAgg, run_underlying hu]
  simp [loadVar, ha, cell_of_rd h]

theorem run_loadVar_st {t : TypeId} {te : TE} {b o : Nat} {vs : List Value} {w : World} {fs : List (Nat × TypeId)} (hT : TSpec P t te) (hd : te.d = .st fs) (hl : vs.length = te.sh.length) (h : ∀ i v, vs[i]? = some v → rd (hp w) b (o + i) = some v) :
    (loadVar t ⟨b, o, none⟩).run P w = .ok (.agg ⟨vs⟩) w := by
  obtain ⟨_, _, ti, d, hti, hu, hsz, _, hh⟩ := hT
  rw [hd] at hh
  obtain ⟨_, _, hl', fields, rfl, _⟩ := hh
  have := run_load_st (P := P) (w := w) (t := t) (b := b) (o := o) (vs := vs) hu hti (by omega) h
  simpa [Instr.loadAt, Instr.sureAddr] using this

/-- How one result is read. -/
def rdRes (tmps : Array Value) : ResultVar → Sem Value
  | .tmp t => pure (tmps.getD t undef)
  | .cell a t => do loadVar t (← asAddr (tmps.getD a undef))

theorem resK_run (hT : TOk P T) {a : Act} {w : World} {fr : Fr} (hS : Sat y n fr a) : ∀ {l : List ResultVar} {K : List Value → Prop}, resK T l fr (hp w) K →
    ∃ vs, (l.mapM (rdRes a.tmps)).run P w = .ok vs w ∧ K vs
  | [], K, h => ⟨[], rfl, h⟩
  | .tmp t :: r, K, h => by
    simp only [resK] at h
    split at h <;> try exact h.elim
    rename_i v hv
    obtain ⟨vs, h1, h2⟩ := resK_run hT hS h
    have h3 := hS.2 t _ hv
    simp only [avV] at h3
    refine ⟨v :: vs, ?_, h2⟩
    simp only [List.mapM_cons, rdRes, Sem.run_bind, Sem.run_pure, Result.andThen_ok, h1]
    simp [h3]
  | .cell x t :: r, K, h => by
    simp only [resK] at h
    split at h <;> try exact h.elim
    rename_i b o te hv hte
    have h3 := hS.2 x _ hv
    simp only [avV] at h3
    have fin : ∀ (v : Value), (loadVar t ⟨b, o, none⟩).run P w = .ok v w → resK T r fr (hp w) (fun vs => K (v :: vs)) → ∃ vs, ((ResultVar.cell x t :: r).mapM (rdRes a.tmps)).run P w = .ok vs w ∧ K vs := by
      intro v hl hk
      obtain ⟨vs, h1, h2⟩ := resK_run hT hS hk
      refine ⟨v :: vs, ?_, h2⟩
      have h4 : a.tmps.getD x undef = .pointer (some ⟨b, o, none⟩) := by simp [h3]
      simp only [List.mapM_cons, rdRes, Sem.run_bind, h4, asAddr, Sem.run_pure, Result.andThen_ok, hl, h1]
    split at h <;> try exact h.elim
    · rename_i hd
      split at h <;> try exact h.elim
      obtain ⟨v, h4, h5⟩ := ldSh_elim h
      exact fin v (run_loadVar_sh (hT _ _ hte) (.inl hd) h4) h5
    · rename_i e hd
      split at h <;> try exact h.elim
      obtain ⟨v, h4, h5⟩ := ldSh_elim h
      exact fin v (run_loadVar_sh (hT _ _ hte) (.inr ⟨e, hd⟩) h4) h5
    · rename_i fs hd
      obtain ⟨vs, h4, h5, h6⟩ := ldAgg_elim h
      exact fin _ (run_loadVar_st (hT _ _ hte) hd h4 h5) h6

theorem results_run (hT : TOk P T) {a : Act} {w : World} {fr : Fr} {fn : Func} {K : List Value → Prop} (hS : Sat y n fr a) (h : resK T fn.results.toList fr (hp w) K) :
    ∃ vs, (results fn a.tmps).run P w = .ok (retV vs) w ∧ K vs := by
  obtain ⟨vs, h1, h2⟩ := resK_run hT hS h
  refine ⟨vs, ?_, h2⟩
  have hm : (fn.results.mapM (rdRes a.tmps)).run P w = .ok ⟨vs⟩ w := by
    rw [Array.mapM_eq_mapM_toList, Sem.run_map, h1]
    rfl
  have hr : results fn a.tmps = (do
      let vs ← fn.results.mapM (rdRes a.tmps)
      pure (if h : vs.size = 1 then vs[0] else .tuple vs)) := by
    unfold results
    congr 2
  rw [hr, Sem.run_bind, hm]
  simp only [Result.andThen_ok, Sem.run_pure]
  congr 1
  match vs with
  | [] => rfl
  | [v] => rfl
  | _ :: _ :: _ => rfl

theorem initFr_get : ∀ (args : List AV) (i j : Nat) (x : AV), (initFr i args).get j = some x → i ≤ j ∧ args[j - i]? = some x
  | [], i, j, x, h => by simp [initFr, Fr.get] at h
  | z :: r, i, j, x, h => by
    simp only [initFr, Fr.get] at h
    cases hb : Nat.beq i j with
    | true =>
      rw [hb] at h
      have := Nat.eq_of_beq_eq_true hb
      subst this
      simpa using h
    | false =>
      rw [hb] at h
      obtain ⟨h1, h2⟩ := initFr_get r (i + 1) j x h
      refine ⟨by omega, ?_⟩
      rw [show j - i = (j - (i + 1)) + 1 by omega]
      simpa using h2

theorem sat_init {args : List AV} (h : args.length ≤ n) : Sat y n (initFr 0 args) { tmps := (⟨args.map (avV y)⟩ : Array Value) ++ Array.replicate (n - (⟨args.map (avV y)⟩ : Array Value).size) undef, defers := [] } := by
  have hsz : (⟨args.map (avV y)⟩ : Array Value).size = args.length := by simp
  refine ⟨by simp; omega, fun i x hx => ?_⟩
  obtain ⟨_, h2⟩ := initFr_get args 0 i x hx
  simp only [Nat.sub_zero] at h2
  have hi : i < args.length := (List.getElem?_eq_some_iff.1 h2).1
  show ((⟨args.map (avV y)⟩ : Array Value) ++ Array.replicate _ undef)[i]? = _
  rw [Array.getElem?_append_left (by rw [hsz]; exact hi)]
  simp [h2]

/-- What holds of a body, in whatever system. -/
theorem body_ok (hmix : P.follows .mixedOrders = true) (hT : TOk P T) {fn : Func} {c : Code} {C : Nat} {Inv : Al → World → Prop} (S : Sys P B C Inv y yl) {k : FuncId} (hf : P.funcs[k]? = some fn) (hb : fn.body = some c)
    {args : List AV} {w : World} {K : Value → Hp → Al → Prop} (hC : C ≤ w.heap.size) (hi : Inv .on w) (h : vcFun P T A yl fn args (hp w) K) :
    Calls P k ⟨args.map (avV y)⟩ w fun e w' => ∃ v al, e = .returned v ∧ K v (hp w') al ∧ Inv al w' := by
  unfold vcFun at h
  rw [hb] at h
  simp only at h
  cases hle : Nat.ble args.length fn.ntmps with
  | false => rw [hle] at h; exact h.elim
  | true =>
    rw [hle] at h
    simp only [cond_true] at h
    have hle' : args.length ≤ fn.ntmps := by simpa using hle
    refine (callsIn_wide (n := 0)).1 (callsIn_of_wp_marks (F := Fence.wide) hf hb trivial ?_)
    have hS := sat_init (y := y) hle'
    have hC0 : Ctx none B C Inv .on ([] : List Deferred) w := ⟨hi, hC, ⟨[], rfl, List.nodup_nil, fun r hr => by cases hr⟩, fun l r e => (by cases e), fun _ _ => rfl⟩
    have := vc_sound (A := A) (yl := yl) (y := y) (n := fn.ntmps) (B := B) hmix hT c C Inv none S 0 _ .on _ w _ h hS hC0
    refine wpIn_mono this ?_
    rintro e a w1 ⟨fr, al, s1, s2, s3, _⟩
    have fin : resK T fn.results.toList fr (hp w1) (fun vs => K (retV vs) (hp w1) al) → LeavesInM Fence.wide 0 P fn a.tmps (fun e w' => ∃ v al, e = .returned v ∧ K v (hp w') al ∧ Inv al w') a.defers .returning w1 := by
      intro hk
      obtain ⟨rs, g1, g2, g3⟩ := s3.dfs
      rw [g1]
      refine leaves_marks (C := C) (Z := fun W => hp W = hp w1 ∧ Inv al W) ?_ ?_ rs w1 g2 g3 ⟨rfl, s3.inv⟩
      · rintro W r ⟨z1, z2⟩ hr hh
        exact ⟨by rw [hp_setObj hh rfl rfl]; exact z1, S.st _ _ _ z2 (Lt.setObj _ hr)⟩
      · rintro W ⟨z1, z2⟩
        rw [← z1] at hk
        obtain ⟨vs, q1, q2⟩ := results_run hT s1 hk
        exact ⟨_, q1, _, al, rfl, q2, z2⟩
    cases e with
    | normal => exact fin s2
    | ret => exact fin s2
    | exit id => exact s2.elim
    | goto l => exact s2.elim
    | panic ch => exact s2.elim
    | outgrown => exact s2.elim

theorem Ge.lt_trans {w0 w w' : World} (h : Ge B w0 w) (hl : Lt w0.heap.size w w') : Ge B w0 w' :=
  ⟨Nat.le_trans h.size hl.size, fun b h1 h2 h3 => by
    have h4 := h.keep b h1 h2 h3
    rw [hl.keep b h2 (Nat.lt_of_lt_of_le h2 h.size) (by rw [hp_of_same h4]; exact h3), h4], hl.tape.trans h.tape, hl.os.trans h.os, hl.output.trans h.output, fun b h1 h2 => (h.tags b h1 h2).trans (hl.tags b h2 (Nat.lt_of_lt_of_le h2 h.size))⟩

theorem vcFun_body {fn : Func} {args : List AV} {H : Hp} {K : Value → Hp → Al → Prop} (h : vcFun P T A yl fn args H K) : ∃ c, fn.body = some c := by
  unfold vcFun at h
  split at h
  · exact h.elim
  · rename_i c hc; exact ⟨c, hc⟩

/-- **A function's contract.** -/
theorem CallH_of_vc (hmix : P.follows .mixedOrders = true) (hT : TOk P T) {fn : Func} {k : FuncId} (hf : P.funcs[k]? = some fn) (hn : (fn.name == "runtime.NumGoroutine") = false) {args : List Value} {H : Hp} {K : Value → Hp → Prop}
    (h : vcFun P T A none fn (args.map .v) H fun v H' _ => K v H') : CallH P k args H K := by
  obtain ⟨c, hb⟩ := vcFun_body h
  rintro w rfl
  refine .inl ⟨⟨fn, hf, by rw [hb]; rfl, hn⟩, ?_⟩
  have S : Sys P 0 w.heap.size (fun _ w' => Ge 0 w w') undef none := ⟨Nat.zero_le _, fun _ _ _ h hl => h.lt_trans hl, fun G hG => by cases hG⟩
  have := body_ok hmix hT S hf hb (Nat.le_refl _) (Ge.refl _ _) h
  have e : (args.map AV.v).map (avV undef) = args := by rw [List.map_map]; exact List.map_id args
  rw [e] at this
  refine this.mono ?_
  rintro e w' ⟨v, al, rfl, hk, hg⟩
  exact ⟨v, rfl, hk, hg⟩

/-- **An iterator's contract.** -/
theorem ITER_of_vc (hmix : P.follows .mixedOrders = true) (hT : TOk P T) {fn : Func} {k : FuncId} (hf : P.funcs[k]? = some fn) (hn : (fn.name == "runtime.NumGoroutine") = false) {pre post : List Value} {H : Hp} {G : GT} {K : Al → Hp → Prop}
    (h : ∀ L, vcFun P T A (some ⟨L, G⟩) fn (pre.map .v ++ (.Y :: post.map .v)) H fun _ H' al => K al H') : ITER P k pre post H G K := by
  obtain ⟨c, hb⟩ := vcFun_body (h 0)
  refine ⟨⟨fn, hf, by rw [hb]; rfl, hn⟩, ?_⟩
  rintro w L X rfl hL hst hX hY
  have S : Sys P (L + 1) w.heap.size (fun al w' => X al w' ∧ Ge (L + 1) w w') (yv L) (some ⟨L, G⟩) :=
    ⟨hL, fun al w1 w2 h hl => ⟨hst _ _ _ h.1 (hl.mono hL), h.2.lt_trans hl⟩, fun G' hG => by
      cases hG
      exact ⟨rfl, hY.and⟩⟩
  have := body_ok hmix hT S hf hb (Nat.le_refl _) ⟨hX, Ge.refl _ _⟩ (h L)
  have e0 : ∀ l : List Value, (l.map AV.v).map (avV (yv L)) = l := fun l => by rw [List.map_map]; exact List.map_id l
  have e : (pre.map AV.v ++ (AV.Y :: post.map AV.v)).map (avV (yv L)) = pre ++ (yv L :: post) := by rw [List.map_append, List.map_cons, e0, e0]; rfl
  rw [e] at this
  refine this.mono ?_
  rintro e w' ⟨v, al, rfl, hk, hx, hg⟩
  exact ⟨v, al, rfl, hk, hx, hg⟩

end
end Go.V
namespace Go.V
set_option linter.unusedSectionVars false

def bs (l : List UInt8) : ByteArray := ⟨⟨l⟩⟩

/-- What becomes of a loop over a function. -/
def alC (al : Al) (A : Prop) (B : Nat → Al → Prop) : Prop :=
  match al with
  | .on => A
  | .off j up => B j up

def zeroL (i : TypeInfo) : List Value :=
  match i.zero with
  | some (.agg cs) => cs.toList
  | _ => []

def descOf (i : TypeInfo) : TypeDesc := i.desc

def structOf (i : TypeInfo) : Array Field :=
  match i.desc with
  | .struct fs => fs
  | _ => #[]

theorem TSpec.sc [Sp] {P : Program} {t : TypeId} {i : TypeInfo} {d : TypeDesc} {s : Sh} {z : Value} {b : Nat} (h1 : P.info? t = some i) (h2 : P.underlying t = some d) (h3 : i.size = 1) (h4 : i.bytes = b) (h5 : shD s d = true)
    (h6 : i.zero = some z) (h7 : z.oneCell' = true) {tl : List Value} (h8 : tl = Go.V.mkT t) (h9 : notT z = true) : TSpec P t ⟨.sc, 1, b, [s], [z], tl⟩ :=
  ⟨h8, by simp [h9], i, d, h1, h2, h3, h4, rfl, s, z, rfl, h5, rfl, h6, h7⟩
theorem TSpec.sl [Sp] {P : Program} {t e : TypeId} {i : TypeInfo} {b : Nat} (h1 : P.info? t = some i) (h2 : P.underlying t = some (.slice e)) (h3 : i.size = 1) (h4 : i.bytes = b) (h6 : i.zero = some (.slice none 0 0)) {tl : List Value} (h8 : tl = Go.V.mkT t) :
    TSpec P t ⟨.sl e, 1, b, [.slice], [.slice none 0 0], tl⟩ :=
  ⟨h8, rfl, i, _, h1, h2, h3, h4, rfl, rfl, rfl, rfl, h6⟩
theorem TSpec.st [Sp] {P : Program} {t : TypeId} {i : TypeInfo} {b n : Nat} {fs : List (Nat × TypeId)} {fields : Array Field} {l : List Sh} {zc : List Value} (h1 : P.info? t = some i) (h2 : P.underlying t = some (.struct fields)) (h3 : i.size = n) (h4 : i.bytes = b)
    (h5 : i.zero = some (.agg ⟨zc⟩)) (h6 : zc.length = n) (h7 : l.length = n) (h8 : fields.toList.map (fun f => (f.offset, f.type)) = fs) (h9 : P.stoodInHeld t = false) (h10 : P.eqGuardType P.depth t = false)
    (h11 : (fields.toList.all fun f => f.name != "_") = true) {tl : List Value} (h12 : tl = Go.V.mkT t) (h13 : zc.all notT = true) : TSpec P t ⟨.st fs, n, b, l, zc, tl⟩ :=
  ⟨h12, h13, i, _, h1, h2, h3, h4, h5, h6, h7, fields, rfl, h8, h9, h10, fun f hf e => by have := List.all_eq_true.1 h11 f hf; rw [e] at this; exact absurd this (by decide)⟩
theorem TSpec.ar [Sp] {P : Program} {t e : TypeId} {i : TypeInfo} {b n m : Nat} {zc : List Value} (h1 : P.info? t = some i) (h2 : P.underlying t = some (.array m e)) (h3 : i.size = n) (h4 : i.bytes = b)
    (h5 : i.zero = some (.agg ⟨zc⟩)) {tl : List Value} (h6 : tl = Go.V.mkT t) (h7 : zc.all notT = true) : TSpec P t ⟨.ar m e, n, b, [], zc, tl⟩ :=
  ⟨h6, h7, i, _, h1, h2, h3, h4, h5, rfl⟩
theorem TSpec.tup [Sp] {P : Program} {t : TypeId} {i : TypeInfo} {b n : Nat} {ts : List TypeId} (h1 : P.info? t = some i) (h2 : P.underlying t = some (.tuple ts.toArray)) (h3 : i.size = n) (h4 : i.bytes = b) {tl : List Value} (h5 : tl = Go.V.mkT t) : TSpec P t ⟨.tup ts, n, b, [], [], tl⟩ :=
  ⟨h5, rfl, i, _, h1, h2, h3, h4, trivial⟩

end Go.V
namespace Go.V

/-! ### Steps -/
@[simp] theorem bc_true {A B : Prop} : bc true A B = A := rfl
@[simp] theorem bc_false {A B : Prop} : bc false A B = B := rfl
theorem bc_i {b : Bool} {A B : Prop} (h : b = true → A) (h' : b = false → B) : bc b A B := by cases b; exact h' rfl; exact h rfl
theorem bcd {p : Prop} [Decidable p] {A B : Prop} (h : p → A) (h' : ¬p → B) : bc (decide p) A B :=
  bc_i (fun e => h (of_decide_eq_true e)) (fun e => h' (of_decide_eq_false e))
theorem bcn {b : Bool} {A B : Prop} (h : b = false → A) (h' : b = true → B) : bc (!b) A B := by cases b; exact h rfl; exact h' rfl
theorem idx {k n : Nat} {F : Nat → Prop} (h : k < n) (hF : F k) : IDX (k : Int) n F := ⟨k, rfl, h, hF⟩
theorem idxN {i : Int} {n : Nat} {F : Nat → Prop} (k : Nat) (hi : i = (k : Int)) (h : k < n) (hF : F k) : IDX i n F := ⟨k, hi, h, hF⟩
theorem idxZ {i : Int} {n : Nat} {F : Nat → Prop} (h0 : 0 ≤ i) (h : i < (n : Int)) (hF : F i.toNat) : IDX i n F := ⟨i.toNat, by omega, by omega, hF⟩
theorem idx0 {n : Nat} {F : Nat → Prop} (h : 0 < n) (hF : F 0) : IDX (0 : Int) n F := ⟨0, rfl, h, hF⟩
theorem chk {e : Int} {F : Int → Prop} (h : -9223372036854775808 ≤ e ∧ e ≤ 9223372036854775807) (hF : F e) : CHK .i64 e F := ⟨h, hF⟩
theorem chkU8 {e : Int} {F : Int → Prop} (h : 0 ≤ e ∧ e ≤ 255) (hF : F e) : CHK .u8 e F := ⟨h, hF⟩
theorem chkU64 {e : Int} {F : Int → Prop} (h : 0 ≤ e ∧ e ≤ 18446744073709551615) (hF : F e) : CHK .u64 e F := ⟨h, hF⟩
@[simp] theorem NIL_some {b o : Nat} {F : Nat → Nat → Prop} : NIL (some ⟨b, o, none⟩) F = F b o := rfl
theorem ldI_i {k : IntKind} {x : Option Value} {F : Int → Prop} {n : Int} (h : x = some (.int k n)) (hF : F n) : ldI k x F := ⟨n, h, hF⟩
theorem ldB_i {x : Option Value} {F : Bool → Prop} {n : Bool} (h : x = some (.bool n)) (hF : F n) : ldB x F := ⟨n, h, hF⟩
theorem ldS_i {x : Option Value} {F : ByteArray → Prop} {n : ByteArray} (h : x = some (.string n)) (hF : F n) : ldS x F := ⟨n, h, hF⟩
theorem ldP_i {x : Option Value} {F : Option Addr → Prop} {n : Option Addr} (h : x = some (.pointer n)) (hF : F n) : ldP x F := ⟨n, h, hF⟩
theorem ldL_i {x : Option Value} {F : Option Addr → Nat → Nat → Prop} {p : Option Addr} {l c : Nat} (h : x = some (.slice p l c)) (hF : F p l c) : ldL x F := ⟨p, l, c, h, hF⟩

/-! ### Heaps -/
/-- All of H but what lies in S stands in H' too. -/
def Ext (S : Nat → Prop) (H H' : Hp) : Prop := ∀ b c, H b = some c → ¬ S b → H' b = some c
def Le (H H' : Hp) : Prop := ∀ b c, H b = some c → H' b = some c
theorem Le.refl (H : Hp) : Le H H := fun _ _ h => h
theorem Le.trans {A B C : Hp} (h : Le A B) (h' : Le B C) : Le A C := fun b c e => h' b c (h b c e)
theorem Le.rd {H H' : Hp} (h : Le H H') {b o : Nat} {v : Value} (e : rd H b o = some v) : rd H' b o = some v := by
  unfold Go.V.rd at *
  cases hb : H b with
  | none => rw [hb] at e; cases e
  | some c => rw [h b c hb]; rw [hb] at e; exact e

theorem nm_cell {v : Value} (h : isCell v = true) : nmO v = some v := by cases v <;> first | rfl | cases h
theorem rd_upd (H : Hp) (b : Nat) (c : List Value) (b' o : Nat) : rd (upd H b c) b' o = if b' = b then (c[o]?).bind nmO else rd H b' o := by
  unfold rd upd; split <;> rfl
theorem rd_wr {H : Hp} {b o : Nat} {v x : Value} {b' o' : Nat} (h : rd H b o = some x) (hv : isCell v = true) : rd (wr H b o v) b' o' = if b' = b then (if o' = o then some v else rd H b' o') else rd H b' o' := by
  unfold rd wr at *
  by_cases hb : b' = b
  · subst hb
    simp only [if_true]
    cases hH : H b' with
    | none => rw [hH] at h; cases h
    | some c =>
      rw [hH] at h
      simp only [Option.map_some, Option.bind_some, List.getElem?_set] at h ⊢
      by_cases ho : o' = o
      · subst ho
        simp only [if_true]
        have hl : o' < c.length := by
          rcases Nat.lt_or_ge o' c.length with h' | h'
          · exact h'
          · rw [List.getElem?_eq_none h'] at h; cases h
        simp [hl, nm_cell hv]
      · rw [if_neg (Ne.symm ho), if_neg ho]
  · simp only [hb, if_false]
theorem Le.upd {H : Hp} {b : Nat} {c : List Value} (h : H b = none) : Le H (upd H b c) := fun b' c' e => by
  unfold Go.V.upd; split
  · subst_vars; rw [h] at e; cases e
  · exact e
theorem rd_some_none {H : Hp} {b o : Nat} (h : H b = none) : rd H b o = none := by unfold rd; rw [h]; rfl

theorem ne_of_rd {H : Hp} {u o v : Nat} {x : Value} (h : rd H u o = some x) (hv : H v = none) : u ≠ v := by
  intro e; subst e; rw [rd_some_none hv] at h; cases h
theorem rd_upd_self {H : Hp} {b o : Nat} {c : List Value} : rd (upd H b c) b o = (c[o]?).bind nmO := by rw [rd_upd, if_pos rfl]
theorem rd_upd_ne {H : Hp} {b b' o : Nat} {c : List Value} (h : b' ≠ b) : rd (upd H b c) b' o = rd H b' o := by rw [rd_upd, if_neg h]
theorem wr_upd {H : Hp} {b o : Nat} {c : List Value} {v : Value} : wr (upd H b c) b o v = upd H b (c.set o v) := by
  funext x
  unfold wr upd
  by_cases h : x = b
  · simp [h]
  · simp [h]
theorem ST_upd {H : Hp} {b o : Nat} {c : List Value} {v : Value} {K : Hp → Prop} (h : ((c[o]?).bind nmO).isSome = true) (hK : K (upd H b (c.set o v))) : ST (upd H b c) b o v K :=
  ⟨by rw [rd_upd_self]; exact h, by rw [wr_upd]; exact hK⟩
theorem rd_rep {H : Hp} {b n k : Nat} {z : Value} (h : k < n) (hz : isCell z = true := by rfl) : rd (upd H b (rep n [z])) b k = some z := by
  rw [rd_upd_self]; show ((List.replicate n z)[k]?).bind nmO = some z; rw [List.getElem?_replicate, if_pos h]; exact nm_cell hz
theorem rd_eq {H H' : Hp} {b o : Nat} (h : H' b = H b) : rd H' b o = rd H b o := by unfold rd; rw [h]
theorem wr_ne {H : Hp} {b o : Nat} {v : Value} {b' : Nat} (h : b' ≠ b) : wr H b o v b' = H b' := by unfold wr; rw [if_neg h]
theorem upd_ne {H : Hp} {b : Nat} {c : List Value} {b' : Nat} (h : b' ≠ b) : upd H b c b' = H b' := by unfold upd; rw [if_neg h]
theorem rd_wr_ne {H : Hp} {b o : Nat} {v : Value} {b' o' : Nat} (h : b' ≠ b) : rd (wr H b o v) b' o' = rd H b' o' := rd_eq (wr_ne h)
theorem rd_wr_self {H : Hp} {b o : Nat} {v x : Value} (h : rd H b o = some x) (hv : isCell v = true := by rfl) : rd (wr H b o v) b o = some v := by rw [rd_wr h hv, if_pos rfl, if_pos rfl]
theorem rd_wr_off {H : Hp} {b o o' : Nat} {v : Value} (h : o' ≠ o) : rd (wr H b o v) b o' = rd H b o' := by
  unfold rd wr
  simp only [if_true]
  cases H b with
  | none => rfl
  | some c => simp only [Option.map_some, Option.bind_some, List.getElem?_set, if_neg (Ne.symm h)]
theorem st {H : Hp} {b o : Nat} {v x : Value} {K : Hp → Prop} (h : rd H b o = some x) (hK : K (wr H b o v)) : ST H b o v K := ⟨by rw [h]; rfl, hK⟩
theorem nil {b o : Nat} {F : Nat → Nat → Prop} (h : F b o) : NIL (some ⟨b, o, none⟩) F := h
theorem ldI0 {H : Hp} {b o : Nat} {k : IntKind} {F : Int → Prop} {n : Int} (h : rd H b o = some (.int k n)) (hF : F n) : ldI k (rd H b (0 + o)) F := ⟨n, by rw [Nat.zero_add]; exact h, hF⟩
theorem ldB0 {H : Hp} {b o : Nat} {F : Bool → Prop} {n : Bool} (h : rd H b o = some (.bool n)) (hF : F n) : ldB (rd H b (0 + o)) F := ⟨n, by rw [Nat.zero_add]; exact h, hF⟩
theorem ldS0 {H : Hp} {b o : Nat} {F : ByteArray → Prop} {n : ByteArray} (h : rd H b o = some (.string n)) (hF : F n) : ldS (rd H b (0 + o)) F := ⟨n, by rw [Nat.zero_add]; exact h, hF⟩
theorem ldP0 {H : Hp} {b o : Nat} {F : Option Addr → Prop} {n : Option Addr} (h : rd H b o = some (.pointer n)) (hF : F n) : ldP (rd H b (0 + o)) F := ⟨n, by rw [Nat.zero_add]; exact h, hF⟩
theorem ldL0 {H : Hp} {b o : Nat} {F : Option Addr → Nat → Nat → Prop} {p : Option Addr} {l c : Nat} (h : rd H b o = some (.slice p l c)) (hF : F p l c) : ldL (rd H b (0 + o)) F := ⟨p, l, c, by rw [Nat.zero_add]; exact h, hF⟩
theorem st0 {H : Hp} {b o : Nat} {v x : Value} {K : Hp → Prop} (h : rd H b o = some x) (hK : K (wr H b o v)) : ST H b (0 + o) v K := by rw [Nat.zero_add]; exact st h hK
/-- make of a row, where its length is a number n. -/
theorem mk {e : Int} {n s : Nat} {F : Nat → Nat → Prop} (he : e = n) (hs : s * n ≤ 281474976710656) (hn : n < 9223372036854775808) (hF : F n n) :
    ∃ x y : Nat, e = (x : Int) ∧ e = (y : Int) ∧ x ≤ y ∧ s * y ≤ 281474976710656 ∧ y < 9223372036854775808 ∧ F x y := ⟨n, n, he, he, Nat.le_refl _, hs, hn, hF⟩
/-- A local struct of two numbers. -/
theorem newP {H : Hp} {x y : Value} {n m : Int} {k k' : IntKind} {F : Nat → Hp → Prop} (hF : ∀ b, H b = none → F b (upd H b [x, y])) :
    NEW H [.int k n, .int k' m] fun b H1 => ST H1 b 0 x fun H2 => ST H2 b 1 y fun H3 => F b H3 :=
  fun b hb => ST_upd rfl (ST_upd rfl (hF b hb))

/-- A write where only this one owns: what was there at first still stands. -/
theorem Le.wr {A H : Hp} {b o : Nat} {v : Value} (h : Le A H) (hb : A b = none) : Le A (wr H b o v) := fun b' c e => by
  unfold Go.V.wr; split
  · subst_vars; rw [hb] at e; cases e
  · exact h _ _ e
theorem Le.wrN {A : Hp} {b : Nat} (hb : A b = none) : ∀ (l : List Value) (o : Nat) (H : Hp), Le A H → Le A (wrN H b o l)
  | [], _, _, h => h
  | _ :: l, o, _, h => Le.wrN hb l (o + 1) _ (h.wr hb)

/-! ### Slices -/
def Sl {α : Type} (f : α → Value) (H : Hp) (p : Option Addr) (l c : Nat) (xs : List α) : Prop :=
  l = xs.length ∧ l ≤ c ∧ (xs = [] ∨ ∃ b o, p = some ⟨b, o, none⟩ ∧ ∀ i (h : i < xs.length), rd H b (o + i) = some (f xs[i]))
/-- Of structs of n cells. -/
def Sn {α : Type} (n : Nat) (f : α → List Value) (H : Hp) (p : Option Addr) (l c : Nat) (xs : List α) : Prop :=
  l = xs.length ∧ l ≤ c ∧ (xs = [] ∨ ∃ b o, p = some ⟨b, o, none⟩ ∧ ∀ i (h : i < xs.length) j v, (f xs[i])[j]? = some v → rd H b (o + i * n + j) = some v)

section
variable {α : Type} {f : α → Value} {H : Hp} {p : Option Addr} {l c : Nat} {xs : List α}
theorem Sl.len (h : Sl f H p l c xs) : l = xs.length := h.1
theorem Sl.nil : Sl f H p 0 c [] := ⟨rfl, Nat.zero_le _, .inl rfl⟩
theorem Sl.le {H' : Hp} (h : Sl f H p l c xs) (hle : Le H H') : Sl f H' p l c xs :=
  ⟨h.1, h.2.1, h.2.2.imp id fun ⟨b, o, hp, h⟩ => ⟨b, o, hp, fun i hi => hle.rd (h i hi)⟩⟩
theorem Sl.at (h : Sl f H p l c xs) {i : Nat} (hi : i < xs.length) : ∃ b o, p = some ⟨b, o, none⟩ ∧ ∀ i (h : i < xs.length), rd H b (o + i) = some (f xs[i]) := by
  rcases h.2.2 with h | h
  · subst h; simp at hi
  · exact h
/-- A piece of a slice. -/
theorem Sl.slice (h : Sl f H p l c xs) {j k : Nat} (hjk : j ≤ k) (hk : k ≤ xs.length) : Sl f H (movA p j 1 c) (k - j) (c - j) ((xs.take k).drop j) := by
  refine ⟨by simp; omega, by have := h.1; have := h.2.1; omega, ?_⟩
  by_cases hj : j = k
  · left; rw [hj]; simp
  · obtain ⟨b, o, hp, h'⟩ := h.at (i := j) (by omega)
    have hc : ¬ c = j := by have := h.1; have := h.2.1; omega
    refine .inr ⟨b, o + j, by subst hp; simp [movA, hc, mulS], fun i hi => ?_⟩
    simp at hi
    rw [Nat.add_assoc, h' (j + i) (by omega)]; simp
theorem Sl.take (h : Sl f H p l c xs) {k : Nat} (hk : k ≤ xs.length) : Sl f H (movA p 0 1 c) (k - 0) (c - 0) (xs.take k) := by
  simpa using h.slice (Nat.zero_le k) hk

theorem sl_nil (h : Sl f H p l c xs) {i : Int} {F : Nat → Nat → Nat → Prop} (h0 : 0 ≤ i) (hi : i < l)
    (hF : ∀ b o (hi : i.toNat < xs.length), rd H b (o + i.toNat) = some (f xs[i.toNat]) → F i.toNat b o) : IDX i l fun k => NIL p fun b o => F k b o := by
  have hl := h.1
  obtain ⟨b, o, hp, hr⟩ := h.at (i := i.toNat) (by omega)
  exact ⟨i.toNat, by omega, by omega, by subst hp; exact hF b o (by omega) (hr _ (by omega))⟩

theorem slI (h : Sl f H p l c xs) {i : Int} {k : IntKind} {g : α → Int} (hf : ∀ x, f x = .int k (g x)) {F : Int → Prop} (h0 : 0 ≤ i) (hi : i < l)
    (hF : (hi : i.toNat < xs.length) → F (g xs[i.toNat])) : IDX i l fun j => NIL p fun b o => ldI k (rd H b (o + j)) F :=
  sl_nil h h0 hi fun _ _ hi e => ⟨_, by rw [e, hf], hF _⟩
theorem slB (h : Sl f H p l c xs) {i : Int} {g : α → Bool} (hf : ∀ x, f x = .bool (g x)) {F : Bool → Prop} (h0 : 0 ≤ i) (hi : i < l)
    (hF : (hi : i.toNat < xs.length) → F (g xs[i.toNat])) : IDX i l fun j => NIL p fun b o => ldB (rd H b (o + j)) F :=
  sl_nil h h0 hi fun _ _ hi e => ⟨_, by rw [e, hf], hF _⟩
theorem slS (h : Sl f H p l c xs) {i : Int} {g : α → ByteArray} (hf : ∀ x, f x = .string (g x)) {F : ByteArray → Prop} (h0 : 0 ≤ i) (hi : i < l)
    (hF : (hi : i.toNat < xs.length) → F (g xs[i.toNat])) : IDX i l fun j => NIL p fun b o => ldS (rd H b (o + j)) F :=
  sl_nil h h0 hi fun _ _ hi e => ⟨_, by rw [e, hf], hF _⟩
theorem slP (h : Sl f H p l c xs) {i : Int} {g : α → Option Addr} (hf : ∀ x, f x = .pointer (g x)) {F : Option Addr → Prop} (h0 : 0 ≤ i) (hi : i < l)
    (hF : (hi : i.toNat < xs.length) → F (g xs[i.toNat])) : IDX i l fun j => NIL p fun b o => ldP (rd H b (o + j)) F :=
  sl_nil h h0 hi fun _ _ hi e => ⟨_, by rw [e, hf], hF _⟩
end

section
variable {α : Type} {n : Nat} {f : α → List Value} {H : Hp} {p : Option Addr} {l c : Nat} {xs : List α}
theorem Sn.len (h : Sn n f H p l c xs) : l = xs.length := h.1
theorem Sn.nil : Sn n f H p 0 c [] := ⟨rfl, Nat.zero_le _, .inl rfl⟩
theorem Sn.le {H' : Hp} (h : Sn n f H p l c xs) (hle : Le H H') : Sn n f H' p l c xs :=
  ⟨h.1, h.2.1, h.2.2.imp id fun ⟨b, o, hp, h⟩ => ⟨b, o, hp, fun i hi j v e => hle.rd (h i hi j v e)⟩⟩
theorem Sn.at (h : Sn n f H p l c xs) {i : Nat} (hi : i < xs.length) : ∃ b o, p = some ⟨b, o, none⟩ ∧ ∀ i (h : i < xs.length) j v, (f xs[i])[j]? = some v → rd H b (o + i * n + j) = some v := by
  rcases h.2.2 with h | h
  · subst h; simp at hi
  · exact h
theorem sn_nil (h : Sn n f H p l c xs) {i : Int} {F : Nat → Nat → Nat → Prop} (h0 : 0 ≤ i) (hi : i < l)
    (hF : ∀ b o (hi : i.toNat < xs.length), (∀ j v, (f xs[i.toNat])[j]? = some v → rd H b (o + i.toNat * n + j) = some v) → F i.toNat b o) : IDX i l fun k => NIL p fun b o => F k b o := by
  have hl := h.1
  obtain ⟨b, o, hp, hr⟩ := h.at (i := i.toNat) (by omega)
  exact ⟨i.toNat, by omega, by omega, by subst hp; exact hF b o (by omega) (hr _ (by omega))⟩
end

/-- Two numbers. -/
def pairC (x : Int × Int) : List Value := [.int .i64 x.1, .int .i64 x.2]
theorem snP {H : Hp} {p : Option Addr} {l c : Nat} {xs : List (Int × Int)} (h : Sn 2 pairC H p l c xs) {i : Int} {F : Int → Int → Prop} (h0 : 0 ≤ i) (hi : i < l)
    (hF : (hi : i.toNat < xs.length) → F xs[i.toNat].1 xs[i.toNat].2) :
    IDX i l fun k => NIL p fun b o => ldI .i64 (rd H b (o + k * 2)) fun x => ldI .i64 (rd H b (o + k * 2 + 1)) fun y => F x y :=
  sn_nil h h0 hi fun _ _ hi e => ⟨_, e 0 _ rfl, _, e 1 _ rfl, hF hi⟩
theorem snA {H : Hp} {p : Option Addr} {l c : Nat} {xs : List (Int × Int)} (h : Sn 2 pairC H p l c xs) {i : Int} {F : Int → Prop} (h0 : 0 ≤ i) (hi : i < l)
    (hF : (hi : i.toNat < xs.length) → F xs[i.toNat].1) :
    IDX i l fun k => NIL p fun b o => ldI .i64 (rd H b (o + k * 2)) fun x => F x :=
  sn_nil h h0 hi fun _ _ hi e => ⟨_, e 0 _ rfl, hF hi⟩
theorem snB {H : Hp} {p : Option Addr} {l c : Nat} {xs : List (Int × Int)} (h : Sn 2 pairC H p l c xs) {i : Int} {F : Int → Prop} (h0 : 0 ≤ i) (hi : i < l)
    (hF : (hi : i.toNat < xs.length) → F xs[i.toNat].2) :
    IDX i l fun k => NIL p fun b o => ldI .i64 (rd H b (o + k * 2 + 1)) fun x => F x :=
  sn_nil h h0 hi fun _ _ hi e => ⟨_, e 1 _ rfl, hF hi⟩

/-! ### Rows of noughts -/
/-- Is l just n times z (told by a test)? -/
def isRep (z : Value → Bool) : List Value → Nat → Bool
  | [], 0 => true
  | v :: r, n + 1 => match z v with
    | true => isRep z r n
    | false => false
  | _, _ => false
def zU8 : Value → Bool
  | .int .u8 (.ofNat 0) => true
  | _ => false
def zI64 : Value → Bool
  | .int .i64 (.ofNat 0) => true
  | _ => false
def zU64 : Value → Bool
  | .int .u64 (.ofNat 0) => true
  | _ => false
def zBool : Value → Bool
  | .bool false => true
  | _ => false
theorem isRep_eq {z : Value → Bool} {y : Value} (h : ∀ v, z v = true → v = y) : ∀ (l : List Value) (n : Nat), isRep z l n = true → l = List.replicate n y
  | [], 0, _ => rfl
  | [], n + 1, e => by simp [isRep] at e
  | v :: r, 0, e => by simp [isRep] at e
  | v :: r, n + 1, e => by
    rw [isRep] at e
    split at e
    · rename_i hz
      rw [h v hz, isRep_eq h r n e]; rfl
    · cases e
theorem zU8_eq : ∀ v, zU8 v = true → v = .int .u8 0 := by intro v h; unfold zU8 at h; split at h; rfl; cases h
theorem zI64_eq : ∀ v, zI64 v = true → v = .int .i64 0 := by intro v h; unfold zI64 at h; split at h; rfl; cases h
theorem zU64_eq : ∀ v, zU64 v = true → v = .int .u64 0 := by intro v h; unfold zU64 at h; split at h; rfl; cases h
theorem zBool_eq : ∀ v, zBool v = true → v = .bool false := by intro v h; unfold zBool at h; split at h; rfl; cases h

/-! ### What a function builds by append -/
/-- A row that grows by append, in memory that wasn't there in A: its cells (s to an element). -/
def Buf (s : Nat) (A H : Hp) (p : Option Addr) (l c : Nat) (cells : List Value) : Prop :=
  l * s = cells.length ∧ ((p = none ∧ l = 0 ∧ c = 0) ∨
    ∃ b rest, p = some ⟨b, 0, none⟩ ∧ A b = none ∧ H b = some (cells ++ rest) ∧ c * s = cells.length + rest.length ∧ l ≤ c ∧ (cells ++ rest).all isCell = true)

theorem Buf.none {s : Nat} {A H : Hp} : Buf s A H none 0 0 [] := ⟨by simp, .inl ⟨rfl, rfl, rfl⟩⟩
theorem Buf.le {s : Nat} {A H H' : Hp} {p : Option Addr} {l c : Nat} {cells : List Value} (h : Buf s A H p l c cells) (hle : Le H H') : Buf s A H' p l c cells :=
  ⟨h.1, h.2.imp id fun ⟨b, r, h1, h2, h3, h4⟩ => ⟨b, r, h1, h2, hle _ _ h3, h4⟩⟩

theorem rd_wrN_ne (b : Nat) : ∀ (l : List Value) (o : Nat) (H : Hp) (b' : Nat), b' ≠ b → wrN H b o l b' = H b'
  | [], _, _, _, _ => rfl
  | v :: l, o, H, b', h => by rw [wrN, rd_wrN_ne b l (o + 1) _ b' h]; unfold wr; rw [if_neg h]
theorem wrN_at (b : Nat) : ∀ (l pre old rest : List Value) (H : Hp), l.length = old.length → H b = some (pre ++ (old ++ rest)) → wrN H b pre.length l b = some (pre ++ (l ++ rest))
  | [], pre, old, rest, H, hl, h => by
    have : old = [] := List.length_eq_zero_iff.1 (by simpa using hl.symm)
    subst this; simpa [wrN] using h
  | v :: l, pre, [], rest, H, hl, h => by simp at hl
  | v :: l, pre, w :: old, rest, H, hl, h => by
    rw [wrN]
    have hw : wr H b pre.length v b = some ((pre ++ [v]) ++ (old ++ rest)) := by
      unfold wr
      rw [if_pos rfl, h]
      simp
    have := wrN_at b l (pre ++ [v]) old rest _ (by simpa using hl) hw
    simpa using this

theorem all_get {l : List Value} (h : l.all isCell = true) {i : Nat} {v : Value} (e : l[i]? = some v) : nmO v = some v := nm_cell (List.all_eq_true.1 h v (List.mem_of_getElem? e))
theorem rdN_self {H : Hp} {b : Nat} {new : List Value} {n : Nat} (h : H b = some new) (hn : new.length = n) (hc : new.all isCell = true) : rdN H b 0 n new :=
  ⟨hn, fun i v e => by unfold rd; rw [h]; simp [e, all_get hc e]⟩
theorem rdN_uniq {H : Hp} {b o n : Nat} {x y : List Value} (hx : rdN H b o n x) (hy : rdN H b o n y) : x = y := by
  apply List.ext_getElem?
  intro i
  by_cases h : i < n
  · have h1 := hx.2 i (x[i]'(by rw [hx.1]; exact h)) (by simp)
    have h2 := hy.2 i (y[i]'(by rw [hy.1]; exact h)) (by simp)
    rw [List.getElem?_eq_getElem (by rw [hx.1]; exact h), List.getElem?_eq_getElem (by rw [hy.1]; exact h), ← h1, ← h2]
  · rw [List.getElem?_eq_none (by rw [hx.1]; omega), List.getElem?_eq_none (by rw [hy.1]; omega)]

theorem rep_all {n : Nat} {zc : List Value} (h : zc.all isCell = true) : (rep n zc).all isCell = true := by
  rw [List.all_eq_true] at h ⊢
  intro x hx
  unfold rep at hx
  split at hx
  · exact h x (by rw [(List.mem_replicate.1 hx).2]; simp)
  · obtain ⟨l, hl, hx⟩ := List.mem_flatten.1 hx
    rw [(List.mem_replicate.1 hl).2] at hx
    exact h x hx
theorem rep_len {n : Nat} {zc : List Value} : (rep n zc).length = n * zc.length := by
  unfold rep
  split
  · simp
  · simp

/-- What append may rest on: n new elements, their cells, read at b. -/
theorem Buf.appN {s : Nat} {A H : Hp} {p : Option Addr} {l c : Nat} {cells : List Value} (hB : Buf s A H p l c cells) {te : TE} (hs : te.size = s) (_ : 0 < s) (hz : te.zc.length = s) (hbp : 0 < te.bytes)
    {x : Value} {new : List Value} {n : Nat} (hnl : new.length = n * s) (hcell : new.all isCell = true) (hfit : (l + n) * te.bytes ≤ 140737488355328)
    {F : Option Addr → Nat → Nat → Hp → Prop} (hA : Le A H) (hsrc : ∀ G : Nat → List Value → Prop, G n new → srcCells H s x G)
    (hF : ∀ p' c' H', Buf s A H' p' (l + n) c' (cells ++ new) → Le A H' → (∀ b, H b ≠ Option.none → p ≠ some ⟨b, 0, Option.none⟩ → H' b = H b) → F p' (l + n) c' H') (hzc : te.zc.all isCell = true := by rfl) (htl : te.tl = [] := by rfl) :
    APP H te p l c x F := by
  have hrep : ∀ k, (rep k te.zc).length = k * s := fun k => by rw [rep_len, hz]
  have hra : ∀ k, (rep k te.zc).all isCell = true := fun k => rep_all hzc
  unfold APP
  rw [hs]
  apply hsrc
  obtain ⟨hl, hB⟩ := hB
  have fresh : ∀ b', H b' = Option.none → A b' = Option.none := fun b' hb' => by
    cases h : A b' with
    | none => rfl
    | some y => rw [hA _ _ h] at hb'; cases hb'
  refine ⟨fun hle => ?_, fun hgt => ⟨?_, hbp, ?_⟩⟩
  · rcases hB with ⟨hp, hl0, hc0⟩ | ⟨b, rest, hp, hAb, hHb, hc, hlc, hall⟩
    · subst hp hl0 hc0
      have hn : n = 0 := by omega
      subst hn
      have hnew : new = [] := List.length_eq_zero_iff.1 (by simpa using hnl)
      subst hnew
      exact hF .none 0 H ⟨by simpa using hl, .inl ⟨rfl, rfl, rfl⟩⟩ hA (fun _ _ _ => rfl)
    · subst hp
      have hroom : n * s ≤ rest.length := by
        have h1 : (l + n) * s ≤ c * s := Nat.mul_le_mul_right _ hle
        rw [Nat.add_mul] at h1
        omega
      refine ⟨fun i hi => ?_, fun v hv => List.all_eq_true.1 hcell v hv, ?_⟩
      · unfold rd; rw [hHb]
        have hi' : 0 + l * s + i < (cells ++ rest).length := by simp; omega
        simp only [Option.bind_some, List.getElem?_eq_getElem hi']
        rw [all_get hall (List.getElem?_eq_getElem hi')]; rfl
      · have hw : wrN H b (0 + l * s) new b = some ((cells ++ new) ++ rest.drop (n * s)) := by
          rw [Nat.zero_add, hl]
          have := wrN_at b new cells (rest.take (n * s)) (rest.drop (n * s)) H (by simp; omega) (by rw [List.take_append_drop]; exact hHb)
          simpa using this
        refine hF _ c _ ⟨by simp [Nat.add_mul, hl, hnl], .inr ⟨b, _, rfl, hAb, hw, by simp; omega, hle, ?_⟩⟩ (Le.wrN hAb new _ H hA) (fun b' hb' hne => ?_)
        · rw [List.all_append, Bool.and_eq_true] at hall
          rw [List.all_append, List.all_append, hall.1, hcell, Bool.true_and, Bool.true_and]
          exact List.all_eq_true.2 fun v hv => List.all_eq_true.1 hall.2 v (List.mem_of_mem_drop hv)
        · exact rd_wrN_ne b new _ H b' (fun e => hne (by rw [e]))
  · exact growslice_fits hgt hfit
  · rcases hB with ⟨hp, hl0, hc0⟩ | ⟨b, rest, hp, hAb, hHb, hc, hlc, hall⟩
    · subst hp hl0 hc0
      have hcn : cells = [] := List.length_eq_zero_iff.1 (by simpa using hl.symm)
      subst hcn
      intro c' b' hb' hc'
      refine hF _ c' _ ⟨by simp [hnl], .inr ⟨b', rep (c' - (0 + n)) te.zc, rfl, fresh b' hb', by rw [htl]; simp [upd, mkl], ?_, hc', ?_⟩⟩ (hA.trans (.upd hb')) (fun b hb _ => ?_)
      · rw [hrep]; simp [hnl, ← Nat.add_mul]; congr 1; omega
      · rw [List.nil_append, List.all_append, hcell, hra]; rfl
      · unfold upd; rw [if_neg]; intro e; subst e; exact hb hb'
    · subst hp
      rw [List.all_append, Bool.and_eq_true] at hall
      refine ⟨cells, ⟨hl.symm, fun i v e => ?_⟩, fun c' b' hb' hc' => ?_⟩
      · unfold rd; rw [hHb]
        have hi : i < cells.length := by
          rcases Nat.lt_or_ge i cells.length with h | h
          · exact h
          · rw [List.getElem?_eq_none h] at e; cases e
        simp only [Option.bind_some, Nat.zero_add]
        rw [List.getElem?_append_left hi, e]
        exact all_get hall.1 e
      · refine hF _ c' _ ⟨by simp [Nat.add_mul, hl, hnl], .inr ⟨b', rep (c' - (l + n)) te.zc, rfl, fresh b' hb', by rw [htl]; simp [upd, mkl], ?_, hc', ?_⟩⟩ (hA.trans (.upd hb')) (fun b hb _ => ?_)
        · rw [hrep]; simp [← hl, hnl, ← Nat.add_mul]; congr 1; omega
        · rw [List.all_append, List.all_append, hall.1, hcell, hra]; rfl
        · unfold upd; rw [if_neg]; intro e; subst e; exact hb hb'

/-- append(out, x): one element. -/
theorem Buf.app1 {s : Nat} {A H : Hp} {p : Option Addr} {l c : Nat} {cells : List Value} (hB : Buf s A H p l c cells) (hA : Le A H) {te : TE} {new : List Value} (hs : te.size = s) (hpos : 0 < s) (hz : te.zc.length = s) (hbp : 0 < te.bytes)
    (hnl : new.length = s) (hcell : new.all isCell = true) (hfit : (l + 1) * te.bytes ≤ 140737488355328)
    {F : Option Addr → Nat → Nat → Hp → Prop}
    (hF : ∀ p' c' H', Buf s A H' p' (l + 1) c' (cells ++ new) → Le A H' → (∀ b, H b ≠ Option.none → p ≠ some ⟨b, 0, Option.none⟩ → H' b = H b) → F p' (l + 1) c' H') (hzc : te.zc.all isCell = true := by rfl) (htl : te.tl = [] := by rfl) :
    NEW H new fun b H1 => APP H1 te p l c (.slice (some ⟨b, 0, Option.none⟩) 1 1) F := by
  intro b hb
  refine (hB.le (.upd hb)).appN hs hpos hz hbp (by simpa using hnl) hcell hfit (hA.trans (.upd hb)) (fun G hG => ⟨new, rdN_self (by simp [upd]) (by simpa using hnl) hcell, hG⟩) (fun p' c' H' h1 h2 h3 => hF p' c' H' h1 h2 fun b' hb' hp => ?_) hzc htl
  have : b' ≠ b := fun e => hb' (e ▸ hb)
  rw [h3 b' (by unfold upd; rw [if_neg this]; exact hb') hp]
  unfold upd; rw [if_neg this]

variable {α : Type} {f : α → Value}
theorem Buf.sl {A H : Hp} {p : Option Addr} {l c : Nat} {xs : List α} (h : Buf 1 A H p l c (xs.map f)) : Sl f H p l c xs := by
  obtain ⟨hl, h⟩ := h
  have hl' : l = xs.length := by simpa using hl
  rcases h with ⟨_, h0, hc0⟩ | ⟨b, r, hp, _, hb, _, hlc, hall⟩
  · exact ⟨hl', by omega, .inl (List.length_eq_zero_iff.1 (by omega))⟩
  · refine ⟨hl', hlc, .inr ⟨b, 0, hp, fun i hi => ?_⟩⟩
    have e : (xs.map f ++ r)[0 + i]? = some (f xs[i]) := by simp [List.getElem?_append_left, hi]
    unfold rd; rw [hb]
    simp only [Option.bind_some, e]
    exact all_get hall e

theorem flatMap_get {n : Nat} {f : α → List Value} (hf : ∀ x, (f x).length = n) : ∀ (xs : List α) (i : Nat) (h : i < xs.length) (j : Nat), j < n → (xs.flatMap f)[i * n + j]? = (f xs[i])[j]?
  | x :: xs, 0, _, j, hj => by simp [List.getElem?_append_left, hf, hj]
  | x :: xs, i + 1, h, j, hj => by
    rw [List.flatMap_cons, List.getElem?_append_right (by rw [hf, Nat.add_mul]; omega), hf, show (i + 1) * n + j - n = i * n + j by rw [Nat.add_mul]; omega]
    exact flatMap_get hf xs i (by simpa using h) j hj

theorem Buf.sn {n : Nat} {f : α → List Value} (hf : ∀ x, (f x).length = n) (hn : 0 < n) {A H : Hp} {p : Option Addr} {l c : Nat} {xs : List α} (h : Buf n A H p l c (xs.flatMap f)) : Sn n f H p l c xs := by
  obtain ⟨hl, h⟩ := h
  have hlen : (xs.flatMap f).length = xs.length * n := by
    clear h hl
    induction xs with
    | nil => simp
    | cons x xs ih => rw [List.flatMap_cons, List.length_append, ih, hf, List.length_cons, Nat.add_mul]; omega
  rw [hlen] at hl
  have hl' := Nat.eq_of_mul_eq_mul_right hn hl
  rcases h with ⟨_, h0, hc0⟩ | ⟨b, r, hp, _, hb, _, hlc, hall⟩
  · exact ⟨hl', by omega, .inl (List.length_eq_zero_iff.1 (by omega))⟩
  · refine ⟨hl', hlc, .inr ⟨b, 0, hp, fun i hi j v e => ?_⟩⟩
    have hj : j < n := by
      rcases Nat.lt_or_ge j n with h | h
      · exact h
      · rw [List.getElem?_eq_none (by rw [hf]; exact h)] at e; cases e
    unfold rd; rw [hb]
    have hlt : i * n + j < (xs.flatMap f).length := by
      rw [hlen]
      have : (i + 1) * n ≤ xs.length * n := Nat.mul_le_mul_right _ hi
      rw [Nat.add_mul] at this; omega
    simp only [Option.bind_some, Nat.zero_add]
    rw [List.getElem?_append_left hlt, flatMap_get hf xs i hi j hj, e]
    exact all_get hall (i := i * n + j) (by rw [List.getElem?_append_left hlt, flatMap_get hf xs i hi j hj, e])

/-! ### From heaps back to worlds -/
theorem mask_inj {u v : Value} {p q : Prop} [Decidable p] [Decidable q] (h : (if p then Value.tuple ⟨[u]⟩ else emb u) = (if q then Value.tuple ⟨[v]⟩ else emb v)) : u = v ∧ (p ↔ q) := by
  by_cases hp : p <;> by_cases hq : q <;> simp only [hp, hq, if_true, if_false, iff_self, and_true] at h ⊢
  · simp only [Value.tuple.injEq, Array.mk.injEq, List.cons.injEq, and_true] at h
    exact h
  · exfalso; cases v <;> simp [emb] at h
  · exfalso; cases u <;> simp [emb] at h
  · cases u <;> cases v <;> simp [emb] at h ⊢ <;> exact h
theorem mapV_inj {es es' : List MapEntry} {c c' : Nat} (h : mapV es c = mapV es' c') : es = es' ∧ c = c' := by
  simp only [mapV, List.cons.injEq, Value.tuple.injEq, Array.mk.injEq, Value.int.injEq, true_and, and_true] at h
  obtain ⟨h1, h2⟩ := h
  refine ⟨?_, by omega⟩
  clear h1
  induction es generalizing es' with
  | nil => cases es' with
    | nil => rfl
    | cons => simp at h2
  | cons e es ih => cases es' with
    | nil => simp at h2
    | cons e' es' =>
      simp only [List.map_cons, List.cons.injEq, Value.tuple.injEq, Array.mk.injEq, Value.int.injEq, true_and, and_true] at h2
      obtain ⟨⟨a1, a2, a3⟩, h3⟩ := h2
      obtain ⟨k, v, b⟩ := e
      obtain ⟨k', v', b'⟩ := e'
      simp only at a1 a2 a3
      have : b = b' := by omega
      rw [ih h3, a2, a3, this]
theorem iterV_inj {m m' : Option Nat} {a a' b b' : Nat} {s s' : List Nat} (h : iterV m a s b = iterV m' a' s' b') : m = m' ∧ a = a' ∧ s = s' ∧ b = b' := by
  simp only [iterV, List.cons.injEq, Value.tuple.injEq, Array.mk.injEq, Value.int.injEq, true_and, and_true] at h
  obtain ⟨⟨h0, h1, h1'⟩, h2⟩ := h
  refine ⟨?_, by omega, ?_, by omega⟩
  · cases m <;> cases m' <;> simp [optV] at h0 ⊢ <;> omega
  · clear h0 h1 h1'
    induction s generalizing s' with
    | nil => cases s' with
      | nil => rfl
      | cons => simp at h2
    | cons e es ih => cases s' with
      | nil => simp at h2
      | cons e' es' =>
        simp only [List.map_cons, List.cons.injEq, Value.tuple.injEq, Array.mk.injEq, Value.int.injEq, true_and, and_true] at h2
        rw [ih h2.2, show e = e' by omega]
theorem mapV_ne_iterV {es : List MapEntry} {c : Nat} {m : Option Nat} {a b : Nat} {s : List Nat} : mapV es c ≠ iterV m a s b := by simp [mapV, iterV]

theorem objB_eq [Sp] {o o' : Obj} {c : List Value} (h : objB o = some c) (h' : objB o' = some c) (ht : TagLe (tagOf o) (tagOf o')) : o' = o := by
  cases o with
  | cells c1 t1 f1 =>
    obtain ⟨lo, hi⟩ := f1
    cases o' with
    | cells c2 t2 f2 =>
      obtain ⟨lo', hi'⟩ := f2
      have htt : t2 = t1 ∧ c2.size = c1.size := by
        rcases ht with ht | ⟨k, l, g, l', g', n, h1, h2, _⟩
        · simp only [tagOf, Option.some.injEq, Prod.mk.injEq] at ht
          exact ⟨by have := ht.1; exact Nat.add_right_cancel this, ht.2.2.2⟩
        · simp only [tagOf, Option.some.injEq, Prod.mk.injEq] at h1 h2
          exact ⟨Nat.add_right_cancel (h2.1.trans h1.1.symm), h2.2.2.2.trans h1.2.2.2.symm⟩
      obtain ⟨rfl, hsz⟩ := htt
      simp only [objB, Option.some.injEq] at h h'
      rw [← h', mkl_eq, mkl_eq] at h
      have hm := (List.append_inj h (by rw [maskL_len, maskL_len]; simp [hsz])).1
      have each : ∀ i, i < c1.size → c1[i]? = c2[i]? ∧ ((lo ≤ i ∧ i < hi) ↔ (lo' ≤ i ∧ i < hi')) := fun i hi => by
        have e1 : (maskL lo _ c1.toList)[i]? = (maskL lo' _ c2.toList)[i]? := congrArg (fun l : List Value => l[i]?) hm
        rw [maskL_get, maskL_get] at e1
        have a1 : c1.toList[i]? = some c1[i] := by simp [hi]
        have a2 : c2.toList[i]? = some (c2[i]'(by rw [hsz]; exact hi)) := by simp [hsz, hi]
        rw [a1, a2] at e1
        simp only [Option.map_some, Option.some.injEq] at e1
        obtain ⟨e2, e3⟩ := mask_inj e1
        refine ⟨?_, e3⟩
        rw [← Array.getElem?_toList, ← Array.getElem?_toList, a1, a2, e2]
      have hc : c2 = c1 := by
        apply Array.ext hsz
        intro i h1 h2
        have := (each i h2).1
        rw [Array.getElem?_eq_getElem h2, Array.getElem?_eq_getElem h1] at this
        exact (Option.some.inj this).symm
      subst hc
      have hf : (lo', hi') = (lo, hi) := by
        rcases ht with ht | ⟨k, l, g, l', g', n, h1, h2, _, i, hi1, hi2, hi3⟩
        · simp only [tagOf, Option.some.injEq, Prod.mk.injEq] at ht
          rw [ht.2.1, ht.2.2.1]
        · simp only [tagOf, Option.some.injEq, Prod.mk.injEq] at h1 h2
          obtain ⟨_, rfl, rfl, rfl⟩ := h1
          obtain ⟨_, rfl, rfl, _⟩ := h2
          exact absurd ((each i hi1).2.2 hi2) hi3
      rw [hf]
    | _ => rcases ht with ht | ⟨k, l, g, l', g', n, h1, h2, _⟩ <;> simp [tagOf] at *
             <;> omega
  | map es1 c1 =>
    cases o' with
    | map es2 c2 =>
      simp only [objB, Option.some.injEq] at h h'
      rw [← h'] at h
      obtain ⟨h1, h2⟩ := mapV_inj h
      have : es1 = es2 := Array.ext' h1
      rw [this, h2]
    | mapIter m a s b =>
      simp only [objB, Option.some.injEq] at h h'
      rw [← h'] at h
      exact absurd h mapV_ne_iterV
    | cells c2 t2 f2 => rcases ht with ht | ⟨k, l, g, l', g', n, h1, h2, _, i, hi1, _⟩ <;> simp [tagOf] at * <;> omega
    | _ => simp [objB] at h'
  | mapIter m a s b =>
    cases o' with
    | mapIter m' a' s' b' =>
      simp only [objB, Option.some.injEq] at h h'
      rw [← h'] at h
      obtain ⟨h1, h2, h3, h4⟩ := iterV_inj h
      have : s = s' := Array.ext' h3
      rw [h1, h2, this, h4]
    | map es c =>
      simp only [objB, Option.some.injEq] at h h'
      rw [← h'] at h
      exact absurd h.symm mapV_ne_iterV
    | cells c2 t2 f2 => rcases ht with ht | ⟨k, l, g, l', g', n, h1, h2, _, i, hi1, _⟩ <;> simp [tagOf] at * <;> omega
    | _ => simp [objB] at h'
  | _ => simp [objB] at h

theorem belowOf [Sp] {w w' : World} (hg : Ge 0 w w') (hl : Le (hp w) (hp w')) : RowKit.Below w.heap.size w w' := by
  refine ⟨hg.os, hg.tape, hg.output, hg.size, fun b hb => ?_⟩
  cases hh : hp w b with
  | none => exact hg.keep b (Nat.zero_le _) hb hh
  | some c =>
    have h2 := hl _ _ hh
    have ht := hg.tags b (Nat.zero_le _) hb
    unfold hp at hh h2
    unfold tagAt at ht
    cases ho : w.heap[b]? with
    | none => rw [ho] at hh; cases hh
    | some o =>
      cases ho' : w'.heap[b]? with
      | none => rw [ho'] at h2; cases h2
      | some o' =>
        rw [ho] at hh
        rw [ho'] at h2
        rw [ho, ho'] at ht
        rw [objB_eq hh h2 ht]
end Go.V
namespace Go.V

/-- All that stands outside of O stays. -/
def Mod (O : List Nat) (H H' : Hp) : Prop := ∀ b, b ∉ O → ∀ c, H b = some c → H' b = some c
section
variable {O O' : List Nat} {A H H' B C : Hp} {b o : Nat} {v : Value}
theorem Mod.refl : Mod O H H := fun _ _ _ e => e
theorem Le.mod (h : Le H H') : Mod O H H' := fun b _ c e => h b c e
theorem Mod.trans (h : Mod O A B) (h' : Mod O B C) : Mod O A C := fun b hb c e => h' b hb c (h b hb c e)
theorem Mod.mono (h : Mod O H H') (hs : ∀ b ∈ O, b ∈ O') : Mod O' H H' := fun b hb c e => h b (fun hb' => hb (hs b hb')) c e
theorem Mod.nil (h : Mod [] H H') : Le H H' := fun b c e => h b (by simp) c e
theorem Mod.get (h : Mod O H H') (hb : b ∉ O) {c : List Value} (e : H b = some c) : H' b = some c := h b hb c e
theorem Mod.rd (h : Mod O H H') (hb : b ∉ O) (e : rd H b o = some v) : rd H' b o = some v := by
  unfold Go.V.rd at *
  cases hH : H b with
  | none => rw [hH] at e; cases e
  | some c => rw [h b hb c hH]; rw [hH] at e; exact e
theorem Mod.wr (h : Mod O A H) (hb : b ∈ O ∨ A b = none) : Mod O A (wr H b o v) := fun b' hb' c e => by
  unfold Go.V.wr
  split
  · subst_vars
    rcases hb with hb | hb
    · exact absurd hb hb'
    · rw [hb] at e; cases e
  · exact h b' hb' c e
theorem Mod.upd (h : Mod O A H) (hb : A b = none ∨ H b = none ∨ b ∈ O) {c : List Value} : Mod O A (upd H b c) := fun b' hb' c' e => by
  unfold Go.V.upd
  split
  · subst_vars
    rcases hb with hb | hb | hb
    · rw [hb] at e; cases e
    · rw [h _ hb' _ e] at hb; cases hb
    · exact absurd hb hb'
  · exact h b' hb' c' e
theorem Mod.le (h : Mod O H H') (hle : Le A H) (hO : ∀ b ∈ O, A b = none) : Le A H' := fun b c e =>
  h b (fun hb => by rw [hO b hb] at e; cases e) c (hle b c e)
/-- What was there neither changed nor was it meant to: new memory alone. -/
theorem Mod.fresh (h : Mod O H H') (hO : ∀ b ∈ O, H b = none) : Le H H' := h.le (Le.refl _) hO
theorem Mod.after (h : Mod O H H') (hle : Le A H) : Mod O A H' := fun b hb c e => h b hb c (hle b c e)
theorem Mod.andLe (h : Mod O A H) (hle : Le H H') : Mod O A H' := fun b hb c e => hle b c (h b hb c e)
theorem none_of_le (h : Le A H) (e : H b = none) : A b = none := by
  cases hA : A b with
  | none => rfl
  | some c => rw [h b c hA] at e; cases e
theorem some_of_rd (e : rd H b o = some v) : ∃ c, H b = some c := by
  unfold rd at e
  cases hH : H b with
  | none => rw [hH] at e; cases e
  | some c => exact ⟨c, rfl⟩
theorem ne_none_of_rd (e : rd H b o = some v) : H b ≠ none := by
  obtain ⟨c, hc⟩ := some_of_rd e
  rw [hc]; intro h; cases h
end

/-- A new address (or none). -/
def New (H : Hp) (p : Option Addr) : Prop := ∀ b o, p = some ⟨b, o, none⟩ → H b = none
theorem New.none {H : Hp} : New H none := fun _ _ h => by cases h
theorem New.some {H : Hp} {b o : Nat} (h : H b = Option.none) : New H (Option.some ⟨b, o, Option.none⟩) := fun b' o' e => by simp only [Option.some.injEq, Addr.mk.injEq] at e; obtain ⟨rfl, _⟩ := e; exact h
theorem New.le {A H : Hp} {p : Option Addr} (h : New H p) (hle : Le A H) : New A p := fun b o e => none_of_le hle (h b o e)

section
variable {α : Type} {f : α → Value} {A H H' : Hp} {p : Option Addr} {l c : Nat} {xs : List α} {O : List Nat}
theorem Sl.mod (h : Sl f H p l c xs) (hm : Mod O H H') (hp : ∀ b o, p = some ⟨b, o, none⟩ → b ∉ O) : Sl f H' p l c xs :=
  ⟨h.1, h.2.1, h.2.2.imp id fun ⟨b, o, e, h⟩ => ⟨b, o, e, fun i hi => hm.rd (hp b o e) (h i hi)⟩⟩
theorem Sl.modF (h : Sl f H p l c xs) (hf : New A p) (hm : Mod O H H') (hO : ∀ b ∈ O, A b ≠ none) : Sl f H' p l c xs :=
  h.mod hm fun b o e hb => hO b hb (hf b o e)
end
section
variable {α : Type} {n : Nat} {f : α → List Value} {A H H' : Hp} {p : Option Addr} {l c : Nat} {xs : List α} {O : List Nat}
theorem Sn.mod (h : Sn n f H p l c xs) (hm : Mod O H H') (hp : ∀ b o, p = some ⟨b, o, none⟩ → b ∉ O) : Sn n f H' p l c xs :=
  ⟨h.1, h.2.1, h.2.2.imp id fun ⟨b, o, e, h⟩ => ⟨b, o, e, fun i hi j v ev => hm.rd (hp b o e) (h i hi j v ev)⟩⟩
theorem Sn.modF (h : Sn n f H p l c xs) (hf : New A p) (hm : Mod O H H') (hO : ∀ b ∈ O, A b ≠ none) : Sn n f H' p l c xs :=
  h.mod hm fun b o e hb => hO b hb (hf b o e)
end

theorem Buf.fr {s : Nat} {A H : Hp} {p : Option Addr} {l c : Nat} {cells : List Value} (h : Buf s A H p l c cells) : New A p := by
  intro b o e
  rcases h.2 with ⟨h0, _, _⟩ | ⟨b', r, h1, h2, _⟩
  · rw [h0] at e; cases e
  · rw [h1] at e; simp only [Option.some.injEq, Addr.mk.injEq] at e; obtain ⟨rfl, _⟩ := e; exact h2
theorem Buf.mod {s : Nat} {A H H' : Hp} {p : Option Addr} {l c : Nat} {cells : List Value} {O : List Nat} (h : Buf s A H p l c cells) (hm : Mod O H H') (hp : ∀ b o, p = some ⟨b, o, Option.none⟩ → b ∉ O) : Buf s A H' p l c cells :=
  ⟨h.1, h.2.imp id fun ⟨b, r, h1, h2, h3, h4⟩ => ⟨b, r, h1, h2, hm b (hp b 0 h1) _ h3, h4⟩⟩
theorem Buf.base {s : Nat} {A A' H : Hp} {p : Option Addr} {l c : Nat} {cells : List Value} (h : Buf s A H p l c cells) (hA : ∀ b, p = some ⟨b, 0, Option.none⟩ → A b = Option.none → A' b = Option.none) : Buf s A' H p l c cells :=
  ⟨h.1, h.2.imp id fun ⟨b, r, h1, h2, h3, h4⟩ => ⟨b, r, h1, hA b h1 h2, h3, h4⟩⟩

/-- All but one row's own memory. -/
def but (H : Hp) (p : Option Addr) : Hp := fun b => match p with
  | some a => if b = a.block then none else H b
  | none => H b
theorem but_le {H : Hp} {p : Option Addr} : Le (but H p) H := fun b c e => by
  unfold but at e
  split at e
  · split at e
    · cases e
    · exact e
  · exact e
theorem but_none {H : Hp} {p : Option Addr} {b : Nat} (h : but H p b = none) : (∃ a, p = some a ∧ a.block = b) ∨ H b = none := by
  unfold but at h
  split at h
  · split at h
    · subst_vars; exact .inl ⟨_, rfl, rfl⟩
    · exact .inr h
  · exact .inr h

/-- append(out, x): as app1; the row stays where it was or goes to new memory, and nothing else is touched. -/
theorem Buf.push {s : Nat} {A H : Hp} {p : Option Addr} {l c : Nat} {cells : List Value} (hB : Buf s A H p l c cells) {te : TE} {new : List Value} (hs : te.size = s) (hpos : 0 < s) (hz : te.zc.length = s) (hbp : 0 < te.bytes)
    (hnl : new.length = s) (hcell : new.all isCell = true) (hfit : (l + 1) * te.bytes ≤ 140737488355328)
    {F : Option Addr → Nat → Nat → Hp → Prop}
    (hF : ∀ p' c' H', Buf s A H' p' (l + 1) c' (cells ++ new) → (p' = p ∨ New H p') → (∀ b d, H b = some d → p ≠ some ⟨b, 0, Option.none⟩ → H' b = some d) → F p' (l + 1) c' H') (hA : Le A H) (hzc : te.zc.all isCell = true := by rfl) (htl : te.tl = [] := by rfl) :
    NEW H new fun b H1 => APP H1 te p l c (.slice (some ⟨b, 0, Option.none⟩) 1 1) F := by
  refine Buf.app1 (A := but H p) (hB.base fun b hb _ => by unfold but; rw [hb]; simp) but_le hs hpos hz hbp hnl hcell hfit (fun p' c' H' h1 h2 h3 => hF p' c' H' (h1.base fun b hb hn => ?_) ?_ ?_) hzc htl
  · rcases but_none hn with ⟨a, hp, ha⟩ | h
    · rcases hB.2 with ⟨h0, _, _⟩ | ⟨b', r, h1, h2, _⟩
      · rw [h0] at hp; cases hp
      · rw [h1] at hp; simp only [Option.some.injEq] at hp; subst hp; simp only at ha; subst ha; exact h2
    · exact none_of_le hA h
  · rcases h1.2 with ⟨h0, _, _⟩ | ⟨b', r, h4, h5, _⟩
    · right; rw [h0]; exact New.none
    · rcases but_none h5 with ⟨a, hp, ha⟩ | h
      · left
        rcases hB.2 with ⟨h0, _, _⟩ | ⟨b'', r, h6, _⟩
        · rw [h0] at hp; cases hp
        · rw [h6] at hp; simp only [Option.some.injEq] at hp; subst hp; simp only at ha; subst ha; rw [h4, h6]
      · right; rw [h4]; exact New.some h
  · intro b d hd hp
    rw [h3 b (by rw [hd]; intro h; cases h) hp]; exact hd

theorem bcF {A B : Prop} (h : B) : bc false A B := h
theorem bcT {A B : Prop} (h : A) : bc true A B := h
theorem alOn {A : Prop} {B : Nat → Al → Prop} (h : A) : alC .on A B := h
/-- None, or a plain address. -/
def PtOk (p : Option Addr) : Prop := p = none ∨ ∃ b o, p = some ⟨b, o, none⟩
theorem PtOk.none : PtOk none := .inl rfl
theorem PtOk.some {b o : Nat} : PtOk (Option.some ⟨b, o, Option.none⟩) := .inr ⟨b, o, rfl⟩
theorem Buf.pt {s : Nat} {A H : Hp} {p : Option Addr} {l c : Nat} {cells : List Value} (h : Buf s A H p l c cells) : PtOk p := by
  rcases h.2 with ⟨h0, _, _⟩ | ⟨b, r, h1, _⟩
  · exact .inl h0
  · exact .inr ⟨b, 0, h1⟩
section
variable {α : Type} {A H : Hp} {p : Option Addr} {l c : Nat} {xs : List α}
theorem sl_srcG {f : α → Value} (h : Sl f H p l c xs) (hp : PtOk p) (G : Nat → List Value → Prop) (hG : G l (xs.map f)) : srcCells H 1 (.slice p l c) G := by
  have hl := h.len
  by_cases hne : 0 < xs.length
  · obtain ⟨b, o, hp, hr⟩ := h.at hne
    subst hp
    refine ⟨xs.map f, ⟨by simp [hl], fun i v e => ?_⟩, hG⟩
    have hi : i < xs.length := by
      rcases Nat.lt_or_ge i xs.length with h | h
      · exact h
      · rw [List.getElem?_eq_none (by simpa using h)] at e; cases e
    rw [hr i hi]
    simpa [hi] using e
  · have h0 : xs = [] := List.length_eq_zero_iff.1 (by omega)
    subst h0
    rcases hp with rfl | ⟨b, o, rfl⟩
    · exact hG
    · exact ⟨[], ⟨by simp at hl; subst hl; rfl, fun i v e => by simp at e⟩, hG⟩
/-- An empty slice, wherever it points. -/
theorem src_nil {H : Hp} {s : Nat} {p : Option Addr} {c : Nat} (G : Nat → List Value → Prop) (hG : G 0 []) : srcCells H s (.slice p 0 c) G := by
  match p with
  | none => exact hG
  | some ⟨b, o, none⟩ => exact ⟨[], ⟨by simp, fun i v e => by simp at e⟩, hG⟩
  | some ⟨b, o, some _⟩ => exact ⟨rfl, hG⟩
theorem sl_src {f : α → Value} (h : Sl f H p l c xs) (G : Nat → List Value → Prop) (hG : G l (xs.map f)) : srcCells H 1 (.slice p l c) G := by
  have hl := h.len
  by_cases hne : 0 < xs.length
  · obtain ⟨b, o, hp, _⟩ := h.at hne
    exact sl_srcG h (.inr ⟨b, o, hp⟩) G hG
  · have h0 : xs = [] := List.length_eq_zero_iff.1 (by omega)
    subst h0
    simp at hl; subst hl
    exact src_nil G hG
theorem flatMap_len {n : Nat} {f : α → List Value} (hf : ∀ x, (f x).length = n) : ∀ xs : List α, (xs.flatMap f).length = xs.length * n
  | [] => by simp
  | x :: xs => by rw [List.flatMap_cons, List.length_append, flatMap_len hf xs, hf, List.length_cons, Nat.add_mul]; omega
theorem sn_srcG {n : Nat} {f : α → List Value} (hn : 0 < n) (hf : ∀ x, (f x).length = n) (h : Sn n f H p l c xs) (hp : PtOk p) (G : Nat → List Value → Prop) (hG : G l (xs.flatMap f)) : srcCells H n (.slice p l c) G := by
  have hl := h.len
  by_cases hne : 0 < xs.length
  · obtain ⟨b, o, hp, hr⟩ := h.at hne
    subst hp
    refine ⟨xs.flatMap f, ⟨by rw [flatMap_len hf, hl], fun i v e => ?_⟩, hG⟩
    have hi : i < xs.length * n := by
      rcases Nat.lt_or_ge i (xs.length * n) with h | h
      · exact h
      · rw [List.getElem?_eq_none (by rw [flatMap_len hf]; exact h)] at e; cases e
    have hq : i / n < xs.length := Nat.div_lt_of_lt_mul (by rw [Nat.mul_comm]; exact hi)
    have hm : i % n < n := Nat.mod_lt _ hn
    have hdm : i = i / n * n + i % n := by rw [Nat.mul_comm]; exact (Nat.div_add_mod i n).symm
    rw [hdm, flatMap_get hf xs _ hq _ hm] at e
    rw [hdm, ← Nat.add_assoc]
    exact hr _ hq _ _ e
  · have h0 : xs = [] := List.length_eq_zero_iff.1 (by omega)
    subst h0
    rcases hp with rfl | ⟨b, o, rfl⟩
    · exact hG
    · exact ⟨[], ⟨by simp at hl; subst hl; simp, fun i v e => by simp at e⟩, hG⟩

theorem sn_src {n : Nat} {f : α → List Value} (hn : 0 < n) (hf : ∀ x, (f x).length = n) (h : Sn n f H p l c xs) (G : Nat → List Value → Prop) (hG : G l (xs.flatMap f)) : srcCells H n (.slice p l c) G := by
  have hl := h.len
  by_cases hne : 0 < xs.length
  · obtain ⟨b, o, hp, _⟩ := h.at hne
    exact sn_srcG hn hf h (.inr ⟨b, o, hp⟩) G hG
  · have h0 : xs = [] := List.length_eq_zero_iff.1 (by omega)
    subst h0
    simp at hl; subst hl
    exact src_nil G hG
theorem Sl.nil0 {f : α → Value} (h : Sl f H p l c xs) (hp : p = Option.none) : l = 0 := by
  rw [h.len]
  by_cases hne : 0 < xs.length
  · obtain ⟨b, o, e, _⟩ := h.at hne
    rw [hp] at e; cases e
  · omega
theorem Sn.nil0 {n : Nat} {f : α → List Value} (h : Sn n f H p l c xs) (hp : p = Option.none) : l = 0 := by
  rw [h.len]
  by_cases hne : 0 < xs.length
  · obtain ⟨b, o, e, _⟩ := h.at hne
    rw [hp] at e; cases e
  · omega
/-- An empty row in new memory. -/
theorem Buf.empty {s : Nat} {A H : Hp} {b : Nat} (hA : A b = Option.none) (hH : H b = Option.some []) : Buf s A H (Option.some ⟨b, 0, Option.none⟩) 0 0 [] :=
  ⟨by simp, .inr ⟨b, [], rfl, hA, by simpa using hH, by simp, Nat.le_refl _, rfl⟩⟩

/-- slices.Clone: as it is in memory. -/
theorem cloneL {te : TE} {s : Nat} {cells : List Value} (hs : te.size = s) (hpos : 0 < s) (hz : te.zc.length = s) (hbp : 0 < te.bytes) (hzc : te.zc.all isCell = true) (hlen : cells.length = l * s) (hcell : cells.all isCell = true) (hfit : l * te.bytes ≤ 140737488355328)
    (hsrc : ∀ {H'}, Le H H' → ∀ G : Nat → List Value → Prop, G l cells → srcCells H' s (.slice p l c) G) (hnil : p = Option.none → l = 0)
    {F : Option Addr → Nat → Nat → Hp → Prop}
    (hF : ∀ p' c' H', Buf s H H' p' l c' cells → (p = Option.none ↔ p' = Option.none) → Le H H' → F p' l c' H') (htl : te.tl = [] := by rfl) :
    bc (decide (p = Option.none)) (F Option.none 0 0 H) (NEW H [] fun b H1 => APP H1 te (Option.some ⟨b, 0, Option.none⟩) 0 0 (.slice p l c) fun p' l' c' H' => F p' l' c' H') := by
  refine bcd (fun h => ?_) (fun h => ?_)
  · have hl := hnil h
    subst hl
    have h0 : cells = [] := List.length_eq_zero_iff.1 (by rw [hlen]; simp)
    subst h0
    exact hF Option.none 0 H Buf.none (by simp [h]) (Le.refl _)
  · intro b hb
    by_cases hl : l = 0
    · subst hl
      have h0 : cells = [] := List.length_eq_zero_iff.1 (by rw [hlen]; simp)
      subst h0
      unfold APP
      rw [hs]
      refine hsrc (Le.upd hb) _ ⟨fun _ => ⟨fun i hi => by simp at hi, fun v hv => by simp at hv, ?_⟩, fun h => by omega⟩
      exact hF _ 0 _ (Buf.empty hb (by simp [wrN, upd])) (by simp [h]) (Le.upd hb)
    · refine Buf.appN (A := H) (n := l) (new := cells) (Buf.empty hb (by simp [upd])) hs hpos hz hbp hlen hcell (by rw [Nat.zero_add]; exact hfit) (Le.upd hb) (fun G hG => hsrc (Le.upd hb) G hG) (fun p' c' H' hB hle _ => ?_) hzc htl
      rw [Nat.zero_add] at hB ⊢
      refine hF p' c' H' (by simpa using hB) ⟨fun e => absurd e h, fun e => ?_⟩ hle
      rcases hB.2 with ⟨_, h0, hc⟩ | ⟨b', r, h1, _⟩
      · exact absurd h0 hl
      · rw [h1] at e; cases e
theorem clone1 {te : TE} {f : α → Value} (hs : te.size = 1) (hz : te.zc.length = 1) (hbp : 0 < te.bytes) (hzc : te.zc.all isCell = true) (hf : ∀ x, isCell (f x) = true) (h : Sl f H p l c xs) (hp : PtOk p) (hfit : l * te.bytes ≤ 140737488355328) (hnil : p = Option.none → l = 0)
    {F : Option Addr → Nat → Nat → Hp → Prop}
    (hF : ∀ p' c' H', Buf 1 H H' p' l c' (xs.map f) → (p = Option.none ↔ p' = Option.none) → Le H H' → F p' l c' H') (htl : te.tl = [] := by rfl) :
    bc (decide (p = Option.none)) (F Option.none 0 0 H) (NEW H [] fun b H1 => APP H1 te (Option.some ⟨b, 0, Option.none⟩) 0 0 (.slice p l c) fun p' l' c' H' => F p' l' c' H') :=
  cloneL hs (by decide) hz hbp hzc (by simp [h.len]) (List.all_eq_true.2 fun v hv => by obtain ⟨x, _, rfl⟩ := List.mem_map.1 hv; exact hf x) hfit (fun hle G hG => sl_srcG (h.le hle) hp G hG) hnil hF htl
/-- slices.Clone of one-cell elements, of a slice that came from anywhere. -/
theorem clonS {te : TE} {f : α → Value} (hs : te.size = 1) (hz : te.zc.length = 1) (hbp : 0 < te.bytes) (hzc : te.zc.all isCell = true) (hf : ∀ x, isCell (f x) = true) (h : Sl f H p l c xs) (hfit : l * te.bytes ≤ 140737488355328)
    {F : Option Addr → Nat → Nat → Hp → Prop}
    (hF : ∀ p' c' H', Buf 1 H H' p' l c' (xs.map f) → (p = Option.none ↔ p' = Option.none) → Le H H' → F p' l c' H') (htl : te.tl = [] := by rfl) :
    bc (decide (p = Option.none)) (F Option.none 0 0 H) (NEW H [] fun b H1 => APP H1 te (Option.some ⟨b, 0, Option.none⟩) 0 0 (.slice p l c) fun p' l' c' H' => F p' l' c' H') :=
  cloneL hs (by decide) hz hbp hzc (by simp [h.len]) (List.all_eq_true.2 fun v hv => by obtain ⟨x, _, rfl⟩ := List.mem_map.1 hv; exact hf x) hfit (fun hle G hG => sl_src (h.le hle) G hG) h.nil0 hF htl
/-- Of structs. -/
theorem clonN {te : TE} {n : Nat} {f : α → List Value} (hs : te.size = n) (hpos : 0 < n) (hz : te.zc.length = n) (hbp : 0 < te.bytes) (hzc : te.zc.all isCell = true) (hn : ∀ x, (f x).length = n) (hf : ∀ x, (f x).all isCell = true) (h : Sn n f H p l c xs) (hfit : l * te.bytes ≤ 140737488355328)
    {F : Option Addr → Nat → Nat → Hp → Prop}
    (hF : ∀ p' c' H', Buf n H H' p' l c' (xs.flatMap f) → (p = Option.none ↔ p' = Option.none) → Le H H' → F p' l c' H') (htl : te.tl = [] := by rfl) :
    bc (decide (p = Option.none)) (F Option.none 0 0 H) (NEW H [] fun b H1 => APP H1 te (Option.some ⟨b, 0, Option.none⟩) 0 0 (.slice p l c) fun p' l' c' H' => F p' l' c' H') :=
  cloneL hs hpos hz hbp hzc (by rw [flatMap_len hn, h.len]) (List.all_eq_true.2 fun v hv => by obtain ⟨x, _, hx⟩ := List.mem_flatMap.1 hv; exact List.all_eq_true.1 (hf x) v hx) hfit (fun hle G hG => sn_src hpos hn (h.le hle) G hG) h.nil0 hF htl
end

/-! ### Rows of rows -/
def blkL (p : Option Addr) : List Nat := match p with | some a => [a.block] | none => []
theorem blkL_mem {p : Option Addr} {b : Nat} (hp : ∀ a, p = some a → a.off = 0 ∧ a.spot = none) (h : b ∈ blkL p) : p = some ⟨b, 0, none⟩ := by
  unfold blkL at h
  split at h
  · rename_i a
    obtain ⟨h1, h2⟩ := hp a rfl
    simp only [List.mem_singleton] at h
    subst h
    obtain ⟨x, y, z⟩ := a
    simp only at h1 h2
    subst h1 h2
    rfl
  · cases h
theorem Buf.zero {s : Nat} {A H : Hp} {p : Option Addr} {l c : Nat} {cells : List Value} (h : Buf s A H p l c cells) : ∀ a, p = some a → a.off = 0 ∧ a.spot = Option.none := by
  intro a e
  rcases h.2 with ⟨h0, _, _⟩ | ⟨b, r, h1, _⟩
  · rw [h0] at e; cases e
  · rw [h1] at e; cases e; exact ⟨rfl, rfl⟩
theorem Buf.there {s : Nat} {A H : Hp} {p : Option Addr} {l c : Nat} {cells : List Value} (h : Buf s A H p l c cells) {b o : Nat} (e : p = some ⟨b, o, Option.none⟩) : H b ≠ Option.none := by
  rcases h.2 with ⟨h0, _, _⟩ | ⟨b', r, h1, _, h3, _⟩
  · rw [h0] at e; cases e
  · rw [h1] at e; simp only [Option.some.injEq, Addr.mk.injEq] at e; obtain ⟨rfl, _⟩ := e; rw [h3]; intro h; cases h
/-- Two rows' memory has nothing in common. -/
def Apart (p q : Option Addr) : Prop := ∀ b o o', p = some ⟨b, o, none⟩ → q ≠ some ⟨b, o', none⟩
theorem Apart.symm {p q : Option Addr} (h : Apart p q) : Apart q p := fun b o o' e e' => h b o' o e' e
theorem Apart.none {q : Option Addr} : Apart none q := fun _ _ _ e => by cases e
theorem Buf.apart {s s' : Nat} {A H : Hp} {p q : Option Addr} {l c l' c' : Nat} {cells cells' : List Value} (_ : Buf s A H p l c cells) (h' : Buf s' A H q l' c' cells') (hn : New H p) : Apart p q := fun b o _ e e' => h'.there e' (hn b o e)
theorem Buf.modA {s s' : Nat} {A H H' B C : Hp} {p q : Option Addr} {l c l' c' : Nat} {cells cells' : List Value} (h : Buf s A H p l c cells) (hq : Buf s' B C q l' c' cells') (hm : Mod (blkL q) H H') (ha : Apart p q) : Buf s A H' p l c cells :=
  h.mod hm fun b o e hb => ha b o 0 e (blkL_mem hq.zero hb)

/-- append(out, x): as push. -/
theorem Buf.pushM {s : Nat} {A H : Hp} {p : Option Addr} {l c : Nat} {cells : List Value} (hB : Buf s A H p l c cells) {te : TE} {new : List Value} (hs : te.size = s) (hpos : 0 < s) (hz : te.zc.length = s) (hbp : 0 < te.bytes)
    (hnl : new.length = s) (hcell : new.all isCell = true) (hfit : (l + 1) * te.bytes ≤ 140737488355328)
    {F : Option Addr → Nat → Nat → Hp → Prop}
    (hF : ∀ p' c' H', Buf s A H' p' (l + 1) c' (cells ++ new) → (p' = p ∨ New H p') → Mod (blkL p) H H' → F p' (l + 1) c' H') (hA : Le A H) (hzc : te.zc.all isCell = true := by rfl) (htl : te.tl = [] := by rfl) :
    NEW H new fun b H1 => APP H1 te p l c (.slice (some ⟨b, 0, Option.none⟩) 1 1) F :=
  hB.push hs hpos hz hbp hnl hcell hfit (fun p' c' H' h1 h2 h3 => hF p' c' H' h1 h2 fun b hb d hd => h3 b d hd fun e => hb (by rw [e]; simp [blkL])) hA hzc htl

/-- append(out, x), x in block b. -/
theorem Buf.pushAt {s : Nat} {A H : Hp} {p : Option Addr} {l c : Nat} {cells : List Value} (hB : Buf s A H p l c cells) {te : TE} {new : List Value} {b : Nat} (hb : H b = some new) (hs : te.size = s) (hpos : 0 < s) (hz : te.zc.length = s) (hbp : 0 < te.bytes)
    (hnl : new.length = s) (hcell : new.all isCell = true) (hfit : (l + 1) * te.bytes ≤ 140737488355328)
    {F : Option Addr → Nat → Nat → Hp → Prop}
    (hF : ∀ p' c' H', Buf s A H' p' (l + 1) c' (cells ++ new) → (p' = p ∨ New H p') → Mod (blkL p) H H' → F p' (l + 1) c' H') (hA : Le A H) (hzc : te.zc.all isCell = true := by rfl) (htl : te.tl = [] := by rfl) :
    APP H te p l c (.slice (some ⟨b, 0, Option.none⟩) 1 1) F := by
  have hB0 := hB
  refine Buf.appN (A := but H p) (hB.base fun b hb _ => by unfold but; rw [hb]; simp) hs hpos hz hbp (by simpa using hnl) hcell hfit but_le (fun G hG => ⟨new, rdN_self hb (by simpa using hnl) hcell, hG⟩) (fun p' c' H' h1 h2 h3 => hF p' c' H' (h1.base fun b hb hn => ?_) ?_ ?_) hzc htl
  · rcases but_none hn with ⟨a, hp, ha⟩ | h
    · rcases hB.2 with ⟨h0, _, _⟩ | ⟨b', r, h1, h2, _⟩
      · rw [h0] at hp; cases hp
      · rw [h1] at hp; simp only [Option.some.injEq] at hp; subst hp; simp only at ha; subst ha; exact h2
    · exact none_of_le hA h
  · rcases h1.2 with ⟨h0, _, _⟩ | ⟨b', r, h4, h5, _⟩
    · right; rw [h0]; exact New.none
    · rcases but_none h5 with ⟨a, hp, ha⟩ | h
      · left
        rcases hB.2 with ⟨h0, _, _⟩ | ⟨b'', r, h6, _⟩
        · rw [h0] at hp; cases hp
        · rw [h6] at hp; simp only [Option.some.injEq] at hp; subst hp; simp only at ha; subst ha; rw [h4, h6]
      · right; rw [h4]; exact New.some h
  · intro b hb d hd
    rw [h3 b (by rw [hd]; intro h; cases h) (fun e => hb (by rw [e]; simp [blkL]))]; exact hd

theorem Buf.set {s : Nat} {A H : Hp} {b o l c : Nat} {cells : List Value} (h : Buf s A H (some ⟨b, o, Option.none⟩) l c cells) {i : Nat} {v : Value} (hi : i < cells.length) (hv : isCell v = true) : Buf s A (wr H b i v) (some ⟨b, o, Option.none⟩) l c (cells.set i v) := by
  refine ⟨by simpa using h.1, ?_⟩
  rcases h.2 with ⟨h0, _, _⟩ | ⟨b', r, h1, h2, h3, h4, h5, h6⟩
  · cases h0
  · simp only [Option.some.injEq, Addr.mk.injEq, and_true] at h1
    obtain ⟨rfl, rfl⟩ := h1
    refine .inr ⟨b, r, rfl, h2, ?_, by simpa using h4, h5, ?_⟩
    · unfold wr; rw [if_pos rfl, h3]
      simp [hi]
    · rw [List.all_eq_true] at h6 ⊢
      intro x hx
      rcases List.mem_append.1 hx with hx | hx
      · rcases List.mem_or_eq_of_mem_set hx with hx | rfl
        · exact h6 x (List.mem_append_left _ hx)
        · exact hv
      · exact h6 x (List.mem_append_right _ hx)
theorem Buf.rd {s : Nat} {A H : Hp} {b o l c : Nat} {cells : List Value} (h : Buf s A H (some ⟨b, o, Option.none⟩) l c cells) {i : Nat} {v : Value} (e : cells[i]? = some v) : rd H b (o + i) = some v := by
  rcases h.2 with ⟨h0, _, _⟩ | ⟨b', r, h1, h2, h3, h4, h5, h6⟩
  · cases h0
  · simp only [Option.some.injEq, Addr.mk.injEq, and_true] at h1
    obtain ⟨rfl, rfl⟩ := h1
    have hi : i < cells.length := by
      rcases Nat.lt_or_ge i cells.length with h | h
      · exact h
      · rw [List.getElem?_eq_none h] at e; cases e
    unfold Go.V.rd; rw [h3]
    simp only [Option.bind_some, Nat.zero_add]
    rw [List.getElem?_append_left hi, e]
    exact all_get h6 (i := i) (by rw [List.getElem?_append_left hi, e])
theorem Buf.some_of {s : Nat} {A H : Hp} {p : Option Addr} {l c : Nat} {cells : List Value} (h : Buf s A H p l c cells) (hne : 0 < l) : ∃ b, p = some ⟨b, 0, Option.none⟩ := by
  rcases h.2 with ⟨_, h0, _⟩ | ⟨b, r, h1, _⟩
  · omega
  · exact ⟨b, h1⟩

/-- A row's head. -/
abbrev Hd := Option Addr × Nat × Nat
def hv (h : Hd) : Value := .slice h.1 h.2.1 h.2.2
/-- A row of rows that grow, each in memory of its own. -/
def Grid {α : Type} (f : α → Value) (A H : Hp) (p : Option Addr) (l c : Nat) (rows : List (List α)) : Prop :=
  ∃ hs : List Hd, hs.length = rows.length ∧ Buf 1 A H p l c (hs.map hv) ∧ (∀ k (h : k < hs.length) (h' : k < rows.length), Buf 1 A H hs[k].1 hs[k].2.1 hs[k].2.2 (rows[k].map f)) ∧
    (∀ k (h : k < hs.length), Apart hs[k].1 p) ∧ ∀ j k (h : j < hs.length) (h' : k < hs.length), j ≠ k → Apart hs[j].1 hs[k].1

section
variable {α : Type} {f : α → Value} {A H : Hp} {p : Option Addr} {l c : Nat} {rows : List (List α)}
theorem Grid.none : Grid f A H none 0 0 [] := ⟨[], rfl, Buf.none, fun k h => by simp at h, fun k h => by simp at h, fun j k h => by simp at h⟩
theorem Grid.len (h : Grid f A H p l c rows) : l = rows.length := by
  obtain ⟨hs, h1, h2, _⟩ := h
  have := h2.1
  simp at this; omega
theorem Grid.le {H' : Hp} (h : Grid f A H p l c rows) (hle : Le H H') : Grid f A H' p l c rows := by
  obtain ⟨hs, h1, h2, h3, h4⟩ := h
  exact ⟨hs, h1, h2.le hle, fun k a b => (h3 k a b).le hle, h4⟩
theorem Grid.mod {H' : Hp} {O : List Nat} (h : Grid f A H p l c rows) (hm : Mod O H H') (hO : ∀ b ∈ O, A b ≠ Option.none) : Grid f A H' p l c rows := by
  obtain ⟨hs, h1, h2, h3, h4⟩ := h
  exact ⟨hs, h1, h2.mod hm fun b o e hb => hO b hb (h2.fr b o e), fun k a b => (h3 k a b).mod hm fun b' o e hb => hO b' hb ((h3 k a b).fr b' o e), h4⟩
/-- out = append(out, nil). -/
theorem Grid.add (h : Grid f A H p l c rows) (hA : Le A H) {te : TE} (hs : te.size = 1) (hz : te.zc.length = 1) (hbp : 0 < te.bytes) (hfit : (l + 1) * te.bytes ≤ 140737488355328) (hzc : te.zc.all isCell = true)
    {F : Option Addr → Nat → Nat → Hp → Prop}
    (hF : ∀ p' c' H', Grid f A H' p' (l + 1) c' (rows ++ [[]]) → Le A H' → F p' (l + 1) c' H') (htl : te.tl = [] := by rfl) :
    NEW H [.slice Option.none 0 0] fun b H1 => APP H1 te p l c (.slice (some ⟨b, 0, Option.none⟩) 1 1) F := by
  obtain ⟨hd, h1, h2, h3, h4, h5⟩ := h
  refine h2.pushM hs (by decide) hz hbp rfl rfl hfit (fun p' c' H' hB hp hm => hF p' c' H' ?_ ?_) hA hzc htl
  · refine ⟨hd ++ [(Option.none, 0, 0)], by simp [h1], by simpa [hv] using hB, fun k hk hk' => ?_, fun k hk => ?_, fun j k hj hk hjk => ?_⟩
    · by_cases e : k < hd.length
      · have e' : k < rows.length := by omega
        simp only [List.getElem_append_left e, List.getElem_append_left e']
        exact (h3 k e e').modA h2 hm (h4 k e)
      · have e1 : k = hd.length := by simp at hk; omega
        subst e1
        simp only [List.getElem_append_right (Nat.le_refl _), Nat.sub_self, List.getElem_singleton, List.getElem_append_right («as» := rows) (i := hd.length) (by omega)]
        simpa using Buf.none
    · by_cases e : k < hd.length
      · simp only [List.getElem_append_left e]
        rcases hp with rfl | hp
        · exact h4 k e
        · exact fun b o o' e1 e2 => (h3 k e (by omega)).there e1 (hp b o' e2)
      · have e1 : k = hd.length := by simp at hk; omega
        subst e1
        simp only [List.getElem_append_right (Nat.le_refl _), Nat.sub_self, List.getElem_singleton]
        exact Apart.none
    · by_cases e : j < hd.length
      · by_cases e' : k < hd.length
        · simp only [List.getElem_append_left e, List.getElem_append_left e']; exact h5 j k e e' hjk
        · have e1 : k = hd.length := by simp at hk; omega
          subst e1
          simp only [List.getElem_append_right (Nat.le_refl _), Nat.sub_self, List.getElem_singleton]
          exact Apart.none.symm
      · have e1 : j = hd.length := by simp at hj; omega
        subst e1
        simp only [List.getElem_append_right (Nat.le_refl _), Nat.sub_self, List.getElem_singleton]
        exact Apart.none
  · exact hm.le hA fun b hb => by
      have := blkL_mem h2.zero hb
      exact h2.fr b 0 this
/-- out[k] = append(out[k], x). -/
theorem Grid.app (h : Grid f A H p l c rows) (hA : Le A H) {te : TE} (hs : te.size = 1) (hz : te.zc.length = 1) (hbp : 0 < te.bytes) (hzc : te.zc.all isCell = true) {i : Int} {k : Nat} (hi : i = (k : Int)) (hk : k < rows.length) {x : α} (hx : isCell (f x) = true)
    (hfit : (rows[k].length + 1) * te.bytes ≤ 140737488355328) {F : Hp → Prop}
    (hF : ∀ H', Grid f A H' p l c (rows.set k (rows[k] ++ [x])) → Le A H' → F H') (htl : te.tl = [] := by rfl) :
    IDX i l fun k => NIL p fun b o => ldL (rd H b (o + k)) fun xp xl xc => NEW H [f x] fun b' H1 => APP H1 te xp xl xc (.slice (some ⟨b', 0, Option.none⟩) 1 1) fun xp' xl' xc' H2 =>
      IDX i l fun k' => NIL p fun b2 o2 => ST H2 b2 (o2 + k') (.slice xp' xl' xc') F := by
  have hl := h.len
  obtain ⟨hd, h1, h2, h3, h4, h5⟩ := h
  have hkd : k < hd.length := by omega
  obtain ⟨b, rfl⟩ := h2.some_of (by omega)
  refine idxN k hi (by omega) ?_
  refine ldL_i (h2.rd (i := k) (v := hv hd[k]) (by simp [hkd])) ?_
  have hB := h3 k hkd hk
  have hBl : hd[k].2.1 = rows[k].length := by have := hB.1; simpa using this
  refine hB.pushM hs (by decide) hz hbp rfl (by simp [hx]) (by rw [hBl]; exact hfit) (fun p' c' H' hB' hp hm => ?_) hA hzc htl
  have h2' := h2.modA hB hm (h4 k hkd).symm
  have rdk : Go.V.rd H' b (0 + k) = some (hv hd[k]) := h2'.rd (i := k) (by simp [hkd])
  refine idxN k hi (by omega) ?_
  have apo : ∀ j (hj : j < hd.length), j ≠ k → Apart p' hd[j].1 := fun j hj hjk => by
    rcases hp with rfl | hp
    · exact h5 k j hkd hj (Ne.symm hjk)
    · exact fun b' o o' e1 e2 => (h3 j hj (by omega)).there e2 (hp b' o e1)
  have ap : Apart p' (some ⟨b, 0, Option.none⟩) := by
    rcases hp with rfl | hp
    · exact h4 k hkd
    · exact fun b' o o' e1 e2 => h2.there e2 (hp b' o e1)
  have mb : ∀ {v}, Mod [b] H' (wr H' b (0 + k) v) := Mod.refl.wr (.inl (by simp))
  have hAb : A b = Option.none := h2.fr b 0 rfl
  have leA : Le A H' := hm.le hA fun b' hb' => hB.fr b' 0 (blkL_mem hB.zero hb')
  refine st rdk (hF _ ⟨hd.set k (p', hd[k].2.1 + 1, c'), by simp [h1], ?_, fun j hj hj' => ?_, fun j hj => ?_, fun i j hi hj hij => ?_⟩ (leA.wr hAb))
  · have := h2'.set (i := k) (v := .slice p' (hd[k].2.1 + 1) c') (by simp [hkd]) rfl
    rw [Nat.zero_add, List.map_set]
    exact this
  · simp only [List.length_set] at hj hj'
    by_cases e : j = k
    · subst e
      simp only [List.getElem_set_self, List.map_append]
      exact (hB'.mod mb fun b' o e hb' => by simp at hb'; subst hb'; exact ap _ _ _ e rfl)
    · simp only [List.getElem_set_ne (Ne.symm e)]
      refine ((h3 j hj hj').modA hB hm (h5 j k hj hkd e)).mod mb fun b' o e hb' => ?_
      simp at hb'; subst hb'; exact h4 j hj _ _ _ e rfl
  · simp only [List.length_set] at hj
    by_cases e : j = k
    · subst e; simp only [List.getElem_set_self]; exact ap
    · simp only [List.getElem_set_ne (Ne.symm e)]; exact h4 j hj
  · simp only [List.length_set] at hi hj
    by_cases e : i = k
    · subst e
      simp only [List.getElem_set_self, List.getElem_set_ne hij]
      exact apo j (by simpa using hj) (Ne.symm hij)
    · simp only [List.getElem_set_ne (Ne.symm e)]
      by_cases e' : j = k
      · subst e'; simp only [List.getElem_set_self]; exact (apo i (by simpa using hi) e).symm
      · simp only [List.getElem_set_ne (Ne.symm e')]; exact h5 i j hi hj hij
/-- A look at a row. -/
theorem Grid.at (h : Grid f A H p l c rows) {i : Int} {k : Nat} (hi : i = (k : Int)) (hk : k < rows.length) {F : Option Addr → Nat → Nat → Prop} (hF : ∀ q l' c', Sl f H q l' c' rows[k] → F q l' c') :
    IDX i l fun k => NIL p fun b o => ldL (rd H b (o + k)) F := by
  have hl := h.len
  obtain ⟨hd, h1, h2, h3, h4, h5⟩ := h
  have hkd : k < hd.length := by omega
  obtain ⟨b, rfl⟩ := h2.some_of (by omega)
  refine idxN k hi (by omega) ?_
  refine ldL_i (h2.rd (i := k) (v := hv hd[k]) (by simp [hkd])) ?_
  exact hF _ _ _ (h3 k hkd hk).sl
end

theorem tmodN {a : Int} {k : Nat} (h : 0 ≤ a) : Int.tmod a (k : Int) = ((a.toNat % k : Nat) : Int) := by
  rw [Int.tmod_eq_emod_of_nonneg h, Int.natCast_emod, Int.toNat_of_nonneg h]
theorem ne_of_none {H : Hp} {a b : Nat} (ha : H a ≠ none) (hb : H b = none) : a ≠ b := fun e => ha (e ▸ hb)
/-- Numbers. -/
def iv (n : Nat) : Value := .int .i64 (n : Int)
end Go.V
namespace Go.V
/-- A row of cells as an array. -/
def A1 {α : Type} [Inhabited α] (f : α → Value) (H : Hp) (p : Option Addr) (l : Nat) (d : Array α) : Prop :=
  l = d.size ∧ (d.size = 0 ∨ ∃ b o, p = some ⟨b, o, none⟩ ∧ ∀ i, i < d.size → rd H b (o + i) = some (f d[i]!))
section
variable {α : Type} [Inhabited α] {f : α → Value} {H H' : Hp} {p : Option Addr} {l c : Nat} {d : Array α} {O : List Nat}
theorem A1.mod (h : A1 f H p l d) (hm : Mod O H H') (hO : ∀ b ∈ blkL p, b ∉ O) : A1 f H' p l d :=
  ⟨h.1, h.2.imp id fun ⟨b, o, e, hh⟩ => ⟨b, o, e, fun i hi => hm.rd (hO b (by rw [e]; simp [blkL])) (hh i hi)⟩⟩
theorem A1.le (h : A1 f H p l d) (hl : Le H H') : A1 f H' p l d := h.mod (O := []) hl.mod (by simp)
theorem A1.at (h : A1 f H p l d) {k : Nat} (hk : k < d.size) : ∃ b o, p = some ⟨b, o, none⟩ ∧ ∀ i, i < d.size → rd H b (o + i) = some (f d[i]!) := by
  rcases h.2 with h | h
  · omega
  · exact h
theorem A1.there (h : A1 f H p l d) (h0 : 0 < d.size) {b : Nat} (hb : b ∈ blkL p) : H b ≠ none := by
  obtain ⟨b', o, e, hh⟩ := h.at h0
  rw [e] at hb
  simp [blkL] at hb
  subst hb
  exact ne_none_of_rd (hh 0 h0)
theorem A1.ofSl {xs : List α} (h : Sl f H p l c xs) : A1 f H p l xs.toArray := by
  refine ⟨by simpa using h.1, ?_⟩
  rcases h.2.2 with h' | ⟨b, o, e, hh⟩
  · left; simp [h']
  · right
    refine ⟨b, o, e, fun i hi => ?_⟩
    have hi' : i < xs.length := by simpa using hi
    rw [hh i hi']
    simp [hi']
theorem A1.toSl (h : A1 f H p l d) (hc : l ≤ c) : Sl f H p l c d.toList := by
  refine ⟨by simpa using h.1, hc, ?_⟩
  rcases h.2 with h' | ⟨b, o, e, hh⟩
  · left; simpa using h'
  · right
    refine ⟨b, o, e, fun i hi => ?_⟩
    have hi' : i < d.size := by simpa using hi
    rw [hh i hi']
    simp [hi']
/-- Two places change: as 'swp'. -/
theorem A1.sw (h : A1 f H p l d) (hc : ∀ x, isCell (f x) = true) {i j : Nat} {ei ej : Int} (hi : i < d.size) (hj : j < d.size) (hei : ei = (i : Int)) (hej : ej = (j : Int)) {F : Hp → Prop}
    (hF : ∀ H', A1 f H' p l (Sort.swp d i j) → Mod (blkL p) H H' → F H') :
    IDX ei l fun k => NIL p fun b o => ST H b (o + k) (f d[j]!) fun H1 => IDX ej l fun k => NIL p fun b o => ST H1 b (o + k) (f d[i]!) F := by
  obtain ⟨b, o, e, hh⟩ := h.at hi
  have hl := h.1
  subst e
  have r1 := hh i hi
  have r2 : rd (wr H b (o + i) (f d[j]!)) b (o + j) = some (f d[j]!) := by
    rw [rd_wr r1 (hc _), if_pos rfl]
    split
    · rfl
    · exact hh j hj
  refine idxN i hei (by omega) (nil (st r1 (idxN j hej (by omega) (nil (st r2 (hF _ ⟨by rw [Sort.swp_size]; exact hl, .inr ⟨b, o, rfl, fun k hk => ?_⟩⟩ ((Mod.refl.wr (.inl (by simp [blkL]))).wr (.inl (by simp [blkL])))))))))
  rw [Sort.swp_size] at hk
  rw [rd_wr r2 (hc _), if_pos rfl, Sort.swp_get d hi hj k]
  by_cases e1 : k = j
  · subst e1; rw [if_pos rfl, if_pos rfl]
  · rw [if_neg (by omega), if_neg e1, rd_wr r1 (hc _), if_pos rfl]
    by_cases e2 : k = i
    · subst e2; rw [if_pos rfl, if_pos rfl]
    · rw [if_neg (by omega), if_neg e2]; exact hh k hk
end
section
variable {H : Hp} {p : Option Addr} {l : Nat}
/-- A number in such a row. -/
theorem A1.I {α : Type} [Inhabited α] {f : α → Value} {d : Array α} {kd : IntKind} {g : α → Int} (h : A1 f H p l d) (hf : ∀ x, f x = .int kd (g x)) (k : Nat) {e : Int} (he : e = (k : Int)) (hk : k < d.size) {F : Int → Prop} (hF : F (g d[k]!)) :
    IDX e l fun k => NIL p fun b o => ldI kd (rd H b (o + k)) F := by
  obtain ⟨b, o, e', hh⟩ := h.at hk
  have hl := h.1
  subst e'
  exact idxN k he (by omega) (nil (ldI_i (by rw [hh k hk, hf]) hF))
/-- A text in such a row. -/
theorem A1.S {α : Type} [Inhabited α] {f : α → Value} {d : Array α} {g : α → ByteArray} (h : A1 f H p l d) (hf : ∀ x, f x = .string (g x)) (k : Nat) {e : Int} (he : e = (k : Int)) (hk : k < d.size) {F : ByteArray → Prop} (hF : F (g d[k]!)) :
    IDX e l fun k => NIL p fun b o => ldS (rd H b (o + k)) F := by
  obtain ⟨b, o, e', hh⟩ := h.at hk
  have hl := h.1
  subst e'
  exact idxN k he (by omega) (nil (ldS_i (by rw [hh k hk, hf]) hF))
end
/-! ### Orders -/
theorem bytesLess_iff : ∀ x y : List UInt8, Op.bytesLess x y = decide (x < y)
  | [], [] => by simp [Op.bytesLess]
  | _ :: _, [] => by simp [Op.bytesLess]
  | [], _ :: _ => by simp [Op.bytesLess]
  | a :: x, b :: y => by
    rw [Op.bytesLess, bytesLess_iff x y]
    simp only [List.cons_lt_cons_iff]
    by_cases h1 : a < b <;> by_cases h2 : a = b <;> by_cases h3 : x < y <;> simp [h1, h2, h3]
/-- Both are sorted, with the same elements: they are the same. -/
theorem sorted_same {α : Type} {lt : α → α → Bool} (hu : ∀ x y, lt x y = false → lt y x = false → x = y) {xs ys : List α} (hp : xs.Perm ys) (hx : xs.Pairwise fun a b => lt b a = false) (hy : ys.Pairwise fun a b => lt b a = false) : xs = ys :=
  List.Perm.eq_of_pairwise (le := fun a b => lt b a = false) (fun a b _ _ h1 h2 => hu a b h2 h1) hx hy hp
theorem sortedIn_pw {α : Type} [Inhabited α] {lt : α → α → Bool} {d : Array α} (h : Sort.SortedIn lt 0 d.size d) : d.toList.Pairwise fun a b => lt b a = false := by
  rw [List.pairwise_iff_getElem]
  intro i j hi hj hij
  have hi' : i < d.size := by simpa using hi
  have hj' : j < d.size := by simpa using hj
  have := h i j (Nat.zero_le _) hij hj'
  simpa [getElem!_def, hi', hj'] using this
theorem permIn_perm {α : Type} [Inhabited α] {d d' : Array α} (h : Sort.PermIn 0 d.size d d') : d'.toList.Perm d.toList := by
  have := h.2.2
  rw [Array.extract_eq_self_of_le (by rw [h.1]; exact Nat.le_refl _), Array.extract_eq_self_of_le (Nat.le_refl _)] at this
  exact this
theorem sorted_lt_mem {α : Type} {lt : α → α → Bool} (hi : ∀ x, lt x x = false) (hu : ∀ x y, lt x y = false → lt y x = false → x = y) (ht : ∀ x y z, lt x y = true → lt y z = true → lt x z = true) {xs ys : List α}
    (hx : xs.Pairwise fun a b => lt a b = true) (hy : ys.Pairwise fun a b => lt a b = true) (hm : ∀ x, x ∈ xs ↔ x ∈ ys) : xs = ys := by
  have nd : ∀ {zs : List α}, zs.Pairwise (fun a b => lt a b = true) → zs.Nodup := fun h => h.imp fun {a b} hab e => by subst e; rw [hi] at hab; cases hab
  have wk : ∀ {zs : List α}, zs.Pairwise (fun a b => lt a b = true) → zs.Pairwise fun a b => lt b a = false := fun h => h.imp fun {a b} hab => by
    cases e : lt b a with
    | false => rfl
    | true => have := ht _ _ _ hab e; rw [hi] at this; cases this
  exact sorted_same hu ((List.perm_ext_iff_of_nodup (nd hx) (nd hy)).2 hm) (wk hx) (wk hy)
/-! ### Numbers in sorts -/
theorem tdivN (x k : Nat) : Int.tdiv (x : Int) (k : Int) = ((x / k : Nat) : Int) := (Int.ofNat_tdiv x k).symm
theorem wrapU (x : Nat) (h : x < 18446744073709551616) : IntKind.wrap .u64 (x : Int) = (x : Int) := wrap_in .u64 (by simp [IntKind.min, IntKind.max, IntKind.signed, IntKind.bits]; omega)
theorem wrapI (x : Nat) (h : x < 9223372036854775808) : IntKind.wrap .i64 (x : Int) = (x : Int) := wrap_in .i64 (by simp [IntKind.min, IntKind.max, IntKind.signed, IntKind.bits]; omega)
theorem iand_bound (x : Int) (m : Nat) (hm : m < 18446744073709551616) : ∃ k : Nat, iand .u64 x (m : Int) = (k : Int) ∧ k ≤ m := by
  refine ⟨(BitVec.ofInt 64 x &&& BitVec.ofInt 64 (m : Int)).toNat, ?_, ?_⟩
  · show IntKind.u64.wrap _ = _
    exact wrapU _ (BitVec.isLt _)
  · rw [BitVec.toNat_and]
    refine Nat.le_trans Nat.and_le_right ?_
    rw [BitVec.toNat_ofInt]
    omega
theorem ishl_1s (k : Nat) (h : k ≤ 40) : ishl .u64 (1 : Int) (k : Int) = ((2 ^ k : Nat) : Int) := by
  show IntKind.u64.wrap ((1 : Int) * 2 ^ (min (k : Int).toNat 64)) = _
  rw [Int.toNat_natCast, Nat.min_eq_left (by omega), Int.one_mul]
  have h2 : (2 : Nat) ^ k ≤ 2 ^ 40 := Nat.pow_le_pow_right (by decide) h
  have := wrapU (2 ^ k) (by omega)
  rw [← this]; norm_cast
theorem ishr_N (x k : Nat) (h : k ≤ 64) : ishr .u64 (x : Int) (k : Int) = ((x / 2 ^ k : Nat) : Int) := by
  show (x : Int).fdiv (2 ^ (min (k : Int).toNat 64)) = _
  rw [Int.toNat_natCast, Nat.min_eq_left h, Int.fdiv_eq_ediv_of_nonneg _ (by exact Int.le_of_lt (Int.pow_pos (by decide)))]
  norm_cast
/-- A counter of swaps. -/
def SwQ (H : Hp) (q : Nat) (N : Nat) : Prop := ∃ n : Int, rd H q 0 = some (.int .i64 n) ∧ 0 ≤ n ∧ n ≤ N
end Go.V
namespace Go.V
set_option linter.unusedSectionVars false

def b8 (b : UInt8) : Value := .int .u8 (b.toNat : Nat)
def f8 (b : UInt8) : Value := .tuple ⟨[b8 b]⟩

/-- A row of bytes in memory of its own (none of it in A), k of its bytes frozen. -/
def BB (e : TypeId) (A H : Hp) (p : Option Addr) (c k : Nat) (l : List UInt8) : Prop :=
  l.length ≤ c ∧ k ≤ l.length ∧ ((p = none ∧ c = 0) ∨
    ∃ q rest, p = some ⟨q, 0, none⟩ ∧ A q = none ∧ 0 < c ∧ c = l.length + rest.length ∧ rest.all isCell = true ∧ H q = some (((l.take k).map f8 ++ ((l.drop k).map b8 ++ rest)) ++ [tyM e 0 k]))

section
variable {e : TypeId} {A A' H H' : Hp} {p : Option Addr} {c k : Nat} {l : List UInt8} {O : List Nat}
theorem BB.none : BB e A H none 0 0 [] := ⟨Nat.le_refl _, Nat.le_refl _, .inl ⟨rfl, rfl⟩⟩
theorem BB.mod (h : BB e A H p c k l) (hm : Mod O H H') (hp : ∀ b ∈ blkL p, b ∉ O) : BB e A H' p c k l :=
  ⟨h.1, h.2.1, h.2.2.imp id fun ⟨q, r, h1, h2, h3, h4, h5, h6⟩ => ⟨q, r, h1, h2, h3, h4, h5, hm q (hp q (by rw [h1]; simp [blkL])) _ h6⟩⟩
theorem BB.base (h : BB e A H p c k l) (hA : ∀ b ∈ blkL p, A' b = Option.none) : BB e A' H p c k l :=
  ⟨h.1, h.2.1, h.2.2.imp id fun ⟨q, r, h1, h2, h3, h4, h5, h6⟩ => ⟨q, r, h1, hA q (by rw [h1]; simp [blkL]), h3, h4, h5, h6⟩⟩
theorem BB.fr (h : BB e A H p c k l) : ∀ b ∈ blkL p, A b = Option.none := by
  rcases h.2.2 with ⟨rfl, _⟩ | ⟨q, r, rfl, h2, _⟩
  · simp [blkL]
  · simpa [blkL] using h2
theorem BB.there (h : BB e A H p c k l) : ∀ b ∈ blkL p, H b ≠ Option.none := by
  rcases h.2.2 with ⟨rfl, _⟩ | ⟨q, r, rfl, h2, h3, h4, h5, h6⟩
  · simp [blkL]
  · simp only [blkL, List.mem_singleton, forall_eq]; rw [h6]; intro e; cases e
theorem b8_cell (b : UInt8) : isCell (b8 b) = true := rfl
theorem BB.rd (h : BB e A H p c k l) {q : Nat} (hp : p = some ⟨q, 0, Option.none⟩) {i : Nat} (hk : k ≤ i) (hi : i < l.length) : rd H q i = some (b8 (l[i])) := by
  rcases h.2.2 with ⟨h0, _⟩ | ⟨q', r, h1, h2, h3, h4, h5, h6⟩
  · rw [h0] at hp; cases hp
  · rw [h1] at hp
    simp only [Option.some.injEq, Addr.mk.injEq, and_true] at hp
    subst hp
    unfold Go.V.rd
    rw [h6]
    simp only [Option.bind_some]
    rw [List.getElem?_append_left (by simp; omega), List.getElem?_append_right (by simp; omega), List.getElem?_append_left (by simp; omega)]
    simp only [List.length_map, List.length_take, List.getElem?_map, List.getElem?_drop, show min k l.length = k by omega]
    rw [show k + (i - k) = i by omega, List.getElem?_eq_getElem hi]
    rfl
end

theorem mkl_app (l m : List Value) : mkl l m = l ++ m := by cases m <;> simp [mkl]
/-- append(buf, ..): n bytes. -/
theorem BB.app {e : TypeId} {A H : Hp} {p : Option Addr} {c k : Nat} {l : List UInt8} {te : TE} (hB : BB e A H p c k l) (hA : Le A H) (hs : te.size = 1) (hb : te.bytes = 1) (hz : te.zc = [.int .u8 0]) (ht : te.tl = [tyM e 0 0]) {x : Value} {new : List UInt8}
    (hsrc : ∀ G : Nat → List Value → Prop, G new.length (new.map b8) → srcCells H 1 x G) (hk : k = 0 ∨ l.length + new.length ≤ c) (hfit : l.length + new.length ≤ 140737488355328) {F : Option Addr → Nat → Nat → Hp → Prop}
    (hF : ∀ p' c' k' H', BB e A H' p' c' k' (l ++ new) → Le A H' → Mod (blkL p) H H' → (p' = p ∨ New H p') → (k' = k ∧ p' = p ∧ c' = c ∨ k' = 0 ∧ c < l.length + new.length) → F p' (l.length + new.length) c' H') :
    APP H te p l.length c x F := by
  have hall : (new.map b8).all isCell = true := List.all_eq_true.2 fun v hv => by obtain ⟨_, _, rfl⟩ := List.mem_map.1 hv; rfl
  have fresh : ∀ b, H b = Option.none → A b = Option.none := fun b e => none_of_le hA e
  unfold APP
  rw [hs]
  apply hsrc
  obtain ⟨h1, h2, hp⟩ := hB
  refine ⟨fun hle => ?_, fun hgt => ⟨?_, by rw [hb]; decide, ?_⟩⟩
  · rcases hp with ⟨rfl, rfl⟩ | ⟨q, rest, rfl, h3, h4, h5, h6, h7⟩
    · have e1 : new = [] := List.length_eq_zero_iff.1 (by omega)
      have e2 : l = [] := List.length_eq_zero_iff.1 (by omega)
      subst e1 e2
      exact hF Option.none 0 k H ⟨h1, h2, .inl ⟨rfl, rfl⟩⟩ hA Mod.refl (.inl rfl) (.inl ⟨rfl, rfl, rfl⟩)
    · have hpre : ((l.take k).map f8 ++ (l.drop k).map b8).length = l.length := by simp; omega
      have hH : H q = some (((l.take k).map f8 ++ (l.drop k).map b8) ++ (rest.take new.length ++ (rest.drop new.length ++ [tyM e 0 k]))) := by
        rw [h7]; simp only [List.append_assoc]
        rw [← List.append_assoc (rest.take _), List.take_append_drop]
      refine ⟨fun i hi => ?_, fun v hv => List.all_eq_true.1 hall v hv, ?_⟩
      · simp only [List.length_map] at hi
        unfold Go.V.rd
        rw [hH]
        simp only [Option.bind_some]
        rw [List.getElem?_append_right (by rw [hpre]; omega), hpre, List.getElem?_append_left (by simp; omega), show 0 + l.length * 1 + i - l.length = i by omega, List.getElem?_take_of_lt hi, List.getElem?_eq_getElem (by omega)]
        have hc : isCell rest[i] = true := List.all_eq_true.1 h6 _ (List.getElem_mem _)
        simp only [Option.bind_some]
        rw [nm_cell hc]; rfl
      · have hw := wrN_at q (new.map b8) ((l.take k).map f8 ++ (l.drop k).map b8) (rest.take new.length) (rest.drop new.length ++ [tyM e 0 k]) H (by simp; omega) hH
        rw [hpre] at hw
        rw [show 0 + l.length * 1 = l.length by omega]
        refine hF _ c k _ ⟨by simp; omega, by simp; omega, .inr ⟨q, rest.drop new.length, rfl, h3, h4, by simp; omega, ?_, ?_⟩⟩ (Le.wrN h3 _ _ _ hA) (fun b hb' d hd => ?_) (.inl rfl) (.inl ⟨rfl, rfl, rfl⟩)
        · exact List.all_eq_true.2 fun v hv => List.all_eq_true.1 h6 v (List.mem_of_mem_drop hv)
        · rw [hw, List.take_append_of_le_length h2, List.drop_append_of_le_length h2]
          simp
        · rw [rd_wrN_ne q _ _ _ b (fun e => hb' (by rw [e]; simp [blkL]))]; exact hd
  · rw [hb]
    exact growslice_fits hgt (by omega)
  · have hk0 : k = 0 := by rcases hk with h | h; exact h; omega
    subst hk0
    rcases hp with ⟨rfl, rfl⟩ | ⟨q, rest, rfl, h3, h4, h5, h6, h7⟩
    · have e2 : l = [] := List.length_eq_zero_iff.1 (by omega)
      subst e2
      intro c' b' hb' hc'
      refine hF _ c' 0 _ ⟨by simpa using hc', Nat.zero_le _, .inr ⟨b', rep (c' - (0 + new.length)) te.zc, rfl, fresh b' hb', by simp at hgt; omega, ?_, ?_, ?_⟩⟩ (hA.trans (.upd hb')) (fun b hb'' d hd => ?_) (.inr (New.some hb')) (.inr ⟨rfl, hgt⟩)
      · rw [rep_len, hz]; simp at hc' ⊢; omega
      · rw [hz]; exact rep_all rfl
      · simp [upd, mkl_app, ht]
      · unfold upd; rw [if_neg]; exact hd
        intro e; subst e; rw [hb'] at hd; cases hd
    · refine ⟨l.map b8, ⟨by simp, fun i v hv => ?_⟩, fun c' b' hb' hc' => ?_⟩
      · have hi : i < l.length := by
          rcases Nat.lt_or_ge i l.length with h | h
          · exact h
          · rw [List.getElem?_eq_none (by simpa using h)] at hv; cases hv
        have := BB.rd (e := e) (A := A) (H := H) (c := c) (k := 0) (l := l) ⟨h1, h2, .inr ⟨q, rest, rfl, h3, h4, h5, h6, h7⟩⟩ rfl (Nat.zero_le i) hi
        rw [Nat.zero_add, this]
        simpa [List.getElem?_eq_getElem hi] using hv
      · refine hF _ c' 0 _ ⟨by simp; omega, Nat.zero_le _, .inr ⟨b', rep (c' - (l.length + new.length)) te.zc, rfl, fresh b' hb', by omega, ?_, ?_, ?_⟩⟩ (hA.trans (.upd hb')) (fun b hb'' d hd => ?_) (.inr (New.some hb')) (.inr ⟨rfl, hgt⟩)
        · rw [rep_len, hz]; simp; omega
        · rw [hz]; exact rep_all rfl
        · simp [upd, mkl_app, ht]
        · unfold upd; rw [if_neg]; exact hd
          intro e; subst e; rw [hb'] at hd; cases hd
theorem src_str {H : Hp} (s : ByteArray) (G : Nat → List Value → Prop) (hG : G s.data.toList.length (s.data.toList.map b8)) : srcCells H 1 (.string s) G := hG
theorem src_one {H : Hp} {b : Nat} {x : UInt8} {tl : List Value} (G : Nat → List Value → Prop) (hG : G 1 ([x].map b8)) : srcCells (upd H b ([.int .u8 (x.toNat : Nat)] ++ tl)) 1 (.slice (some ⟨b, 0, none⟩) 1 1) G :=
  ⟨[b8 x], ⟨rfl, fun i v hv => by
    match i, hv with
    | 0, hv => simp at hv; subst hv; rw [rd_upd_self]; rfl
    | i + 1, hv => simp at hv⟩, hG⟩

/-! ### Pieces -/
theorem bnd11 {lo hi : Int} {len cap : Nat} {F : Nat → Nat → Prop} (j k : Nat) (hl : lo = (j : Int)) (hh : hi = (k : Int)) (hk : k ≤ cap) (hjk : j ≤ k) (hF : F j k) : BND (some lo) (some hi) len cap F := ⟨j, k, hl, hh, hk, hjk, hF⟩
theorem bnd01 {hi : Int} {len cap : Nat} {F : Nat → Nat → Prop} (k : Nat) (hh : hi = (k : Int)) (hk : k ≤ cap) (hF : F 0 k) : BND none (some hi) len cap F := ⟨k, hh, hk, hF⟩
theorem bnd10 {lo : Int} {len cap : Nat} {F : Nat → Nat → Prop} (j : Nat) (hl : lo = (j : Int)) (hj : j ≤ len) (hF : F j len) : BND (some lo) none len cap F := ⟨j, hl, hj, hF⟩

/-! ### Conversions of pointers -/
section
variable [Sp] {P : Program} {H : Hp} {A : Hp}
theorem mask_noTy {lo hi : Nat} {l : List Value} {t a b : Nat} : tyM t a b ∉ maskL lo hi l := by
  intro h
  obtain ⟨i, hi'⟩ := List.mem_iff_getElem?.1 h
  rw [maskL_get] at hi'
  cases hl : l[i]? with
  | none => rw [hl] at hi'; cases hi'
  | some v =>
    rw [hl] at hi'
    simp only [Option.map_some, Option.some.injEq] at hi'
    split at hi'
    · simp [tyM] at hi'
    · cases v <;> simp [emb, tyM] at hi'
/-- What is seen behind the cells tells the row's type, and what of it is frozen. -/
theorem row_of {w : World} {b : Nat} {X : List Value} {e lo hi : Nat} (h : hp w b = some (X ++ [tyM e lo hi])) : ∃ c, w.heap[b]? = some (.cells c e (lo, hi)) ∧ maskL lo hi c.toList = X := by
  unfold hp at h
  cases ho : w.heap[b]? with
  | none => rw [ho] at h; cases h
  | some o =>
    rw [ho] at h
    simp only [Option.bind_some] at h
    cases o with
    | cells c t fz =>
      simp only [objB, Option.some.injEq] at h
      rw [mkl_eq] at h
      unfold mkT at h
      cases hs : Sp.sp t with
      | false =>
        rw [hs] at h
        simp only [cond_false, List.append_nil] at h
        exact absurd (show tyM e lo hi ∈ maskL fz.1 fz.2 c.toList by rw [h]; simp) mask_noTy
      | true =>
        rw [hs] at h
        simp only [cond_true] at h
        have h1 := List.append_inj' h rfl
        simp only [List.cons.injEq, and_true, tyM, Value.tuple.injEq, Array.mk.injEq, Value.int.injEq, true_and] at h1
        obtain ⟨h1, h2, h3, h4⟩ := h1
        have e1 : t = e := Int.ofNat.inj h2
        have e2 : fz.1 = lo := Int.ofNat.inj h3
        have e3 : fz.2 = hi := Int.ofNat.inj h4
        obtain ⟨f1, f2⟩ := fz
        simp only at e2 e3 h1
        subst e1 e2 e3
        exact ⟨c, rfl, h1⟩
    | map es k =>
      simp only [objB, mapV, Option.some.injEq] at h
      exfalso
      have h1 : tyM e lo hi ∈ X ++ [tyM e lo hi] := by simp
      rw [← h] at h1
      simp only [List.mem_cons, List.mem_map] at h1
      rcases h1 with h1 | ⟨_, _, h1⟩ <;> simp [tyM] at h1
    | mapIter m a s k =>
      simp only [objB, iterV, Option.some.injEq] at h
      exfalso
      have h1 : tyM e lo hi ∈ X ++ [tyM e lo hi] := by simp
      rw [← h] at h1
      simp only [List.mem_cons, List.mem_map] at h1
      rcases h1 with h1 | ⟨_, _, h1⟩ <;> simp [tyM] at h1
    | _ => simp [objB] at h
theorem shape_of {w : World} {b : Nat} {c : Array Value} {t : TypeId} {fz : Nat × Nat} (h : w.heap[b]? = some (.cells c t fz)) : w.shape? b = some (t, c.size) := by simp [World.shape?, h]
theorem info_of {t : TypeId} {s : Nat} (h : (P.info? t).map (fun i => i.size) = some s) : ∃ j, P.info? t = some j ∧ j.size = s := by
  cases hi : P.info? t with
  | none => rw [hi] at h; cases h
  | some j => rw [hi] at h; exact ⟨j, rfl, by simpa using h⟩
theorem cnv_to {src dst t : TypeId} {s b o : Nat} {v : Value} {F : Option Addr → Prop} (hs : P.underlying src = some (.pointer t)) (hd : P.underlying dst = some .unsafePointer) (ht : (P.info? t).map (fun i => i.size) = some (s + 1))
    (hr : rd H b o = some v) (hF : F (some ⟨b, o, none⟩)) : CNV P src dst (some ⟨b, o, none⟩) H F := by
  refine ⟨_, fun w hw => ?_, hF⟩
  subst hw
  obtain ⟨j, hj, hjs⟩ := info_of ht
  obtain ⟨c, t', fz, h1, h2, _⟩ := rd_world hr
  exact Lib.run_to_unsafe w ⟨b, o, none⟩ hs hd hj (by omega) (shape_of h1) (by have := (Array.getElem?_eq_some_iff.1 h2).1; exact this)
theorem cnv_from {src dst u : TypeId} {s b lo hi : Nat} {X : List Value} {F : Option Addr → Prop} (hs : P.underlying src = some .unsafePointer) (hd : P.underlying dst = some (.pointer u)) (hu : (P.info? u).map (fun i => i.size) = some s)
    (hb : H b = some (X ++ [tyM u lo hi])) (hl : liesAt P P.depth u (X.length / P.cellsOf u) 0 u 1 = true) (hF : F (some ⟨b, 0, none⟩)) : CNV P src dst (some ⟨b, 0, none⟩) H F := by
  refine ⟨_, fun w hw => ?_, hF⟩
  subst hw
  obtain ⟨j, hu, _⟩ := info_of hu
  obtain ⟨c, h1, h2⟩ := row_of hb
  have : c.size = X.length := by rw [← h2, maskL_len]; simp
  exact Lib.run_from_unsafe w ⟨b, 0, none⟩ hs hd hu (shape_of h1) (by rw [this]; exact hl)
theorem peq_ne {t te : TypeId} {s : Nat} {a : Addr} {F : Bool → Prop} (hp : P.underlying t = some (.pointer te)) (ht : (P.info? te).map (fun i => i.size) = some s) (hF : F false) : PEQ P t .neq (some a) a F := by
  obtain ⟨j, hj, _⟩ := info_of ht
  exact ⟨false, fun w => Lib.run_neq_ptr_same w a hp hj, hF⟩

/-! ### Functions without a body -/
theorem callX {k : FuncId} {args : List Value} {K : Value → Hp → Prop} {fn : Func} {e : Array Value → Sem Value} (hf : P.funcs[k]? = some fn) (hname : (fn.name == "runtime.NumGoroutine") = false) (hb : fn.body = none) (hn : Extern.findNext fn = none) (he : Extern.find fn = some e)
    (h : ∀ w, hp w = H → ∃ v w', (e ⟨args⟩).run P w = .ok v w' ∧ K v (hp w') ∧ Ge 0 w w') : CallH P k args H K := fun w hw => by
  obtain ⟨v, w', h1, h2⟩ := h w hw
  refine .inr ⟨⟨fn, hf, hb⟩, v, w', ?_, h2⟩
  rw [run_callFunc_extern hf hname (by rw [hb]; rfl) hn he, h1]
  rfl

theorem digits_cell : ∀ (n t : Nat) (acc : Array Value), acc.toList.all isCell = true → (Extern.BytealgMakeNoZero.digits n t acc).toList.all isCell = true
  | 0, _, _, h => h
  | n + 1, t, acc, h => by
    rw [Extern.BytealgMakeNoZero.digits]
    refine digits_cell n _ _ ?_
    rw [Array.toList_push, List.all_append, h]
    rfl
/-- n bytes, whatever they are. -/
theorem makeNoZero_run {t e : TypeId} {ps : Array TypeId} {n : Nat} {K : Value → Hp → Prop} (ht : P.underlying t = some (.slice e)) (hn : n ≤ 281474976710656) (hs : Sp.sp e = true)
    (hK : ∀ b (cs : List Value), H b = none → n ≤ cs.length → cs.all isCell = true → K (.slice (some ⟨b, 0, none⟩) n cs.length) (upd H b (cs ++ [tyM e 0 0]))) (w : World) (hw : hp w = H) :
    ∃ v w', (Extern.BytealgMakeNoZero.makeNoZero ps #[t] #[.int .i64 n]).run P w = .ok v w' ∧ K v (hp w') ∧ Ge 0 w w' := by
  subst hw
  let cs := Extern.BytealgMakeNoZero.digits (grownCap w n 0 e) ((Question.extern "internal/bytealg.MakeNoZero.bytes" 0).cut (w.tape (w.drawn + 1) (.extern "internal/bytealg.MakeNoZero.bytes" 0))) #[]
  have hall : cs.toList.all isCell = true := digits_cell _ _ _ rfl
  have hnt : cs.toList.all notT = true := List.all_eq_true.2 fun v hv => isCell_notT (List.all_eq_true.1 hall v hv)
  have hsz : n ≤ cs.size := by
    show n ≤ (Extern.BytealgMakeNoZero.digits _ _ _).size
    rw [Lib.size_digits]
    simpa using grownCap_ge w n 0 e
  refine ⟨.slice (some ⟨w.heap.size, 0, none⟩) n cs.size, w.drew.drew.alloc (.cells cs e), ?_, ?_, ((Ge.drew w).trans (Ge.drew _)).trans (Ge.alloc _ _)⟩
  · obtain ⟨cs', h1, _⟩ := Lib.run_makeNoZero (P := P) w ps t e ht n hn
    have hdef : Extern.BytealgMakeNoZero.makeNoZero ps #[t] #[.int .i64 n] =
        (do
          let .slice elem ← underlying t | stuck "bytealg.MakeNoZero: slice type expected"
          if (n : Int) < 0 || (n : Int) > 2 ^ 48 then runtimePanic (.error "makeslice: len out of range")
          let cap ← choose (.appendCap (n : Int).toNat 0 elem)
          askRoom cap
          let bytes ← choose (.extern "internal/bytealg.MakeNoZero.bytes" 0)
          let a ← newRow elem (Extern.BytealgMakeNoZero.digits cap bytes #[])
          pure (.slice (some a) (n : Int).toNat cap)) := rfl
    rw [hdef]
    have h1 : ¬ (n : Int) < 0 := by omega
    have h2 : ¬ (281474976710656 : Int) < (n : Int) := by omega
    have h3 : cs.size = grownCap w n 0 e := by
      show (Extern.BytealgMakeNoZero.digits _ _ _).size = _
      rw [Lib.size_digits]; simp
    rw [h3]
    simp [run_underlying ht, h1, h2, Question.forced, newRow, grownCap, cs]
  · rw [hp_alloc _ _ hnt]
    have := hK w.heap.size cs.toList hp_fresh (by simpa using hsz) hall
    simp only [Array.length_toList] at this
    simp only [hp_drew]
    have e1 : mkl cs.toList (mkT e) = cs.toList ++ [tyM e 0 0] := by rw [mkl_eq]; unfold mkT; rw [hs]; rfl
    show K _ (upd (hp w) w.heap.size (mkl cs.toList (mkT e)))
    rw [e1]
    exact this

/-! ### Builtins -/
omit [Sp] in
theorem liftI_i {k : IntKind} {n : Int} {F : Int → Prop} (h : F n) : liftI k (.int k n) F := by
  simp only [liftI]
  split
  · exact h
  · rename_i hne _; exact hne rfl
theorem blt_data {ts : List TypeId} {ty : TypeId} {p : Option Addr} {n c : Nat} {F : Value → Hp → Prop} (hc : ∀ a, p = some a → c ≠ 0) (hF : F (.pointer p) H) : BLT P .unsafeSliceData ts ty [.slice p n c] H F := fun w hw => by
  subst hw
  refine ⟨_, w, fun cs => ?_, Ge.refl _ _, hF⟩
  cases p with
  | none => rfl
  | some a =>
    have := Lib.run_unsafeSliceData_row (P := P) w ⟨ts⟩ ty a n c (hc a rfl)
    simp only [builtin, Sem.run_bind]
    erw [this]
    rfl
theorem take_self (l : List UInt8) : l.take l.length = l := List.take_length
/-- The string of a builder's bytes; they are frozen then. -/
theorem blt_str {pt it ty e : TypeId} {p : Option Addr} {c k : Nat} {l : List UInt8} {F : Value → Hp → Prop} (hpt : P.underlying pt = some (.pointer e)) (hc : P.cellsOf e = 1) (hs : Sp.sp e = true) (hB : BB e A H p c k l) (hlen : l.length ≤ 9223372036854775807)
    (hF : ∀ H', BB e A H' p c l.length l → Mod (blkL p) H H' → F (.string ⟨⟨l⟩⟩) H') : BLT P .unsafeString [pt, it] ty [.pointer p, .int .i64 ((l.length : Nat) : Int)] H F := fun w hw => by
  subst hw
  by_cases h0 : l = []
  · subst h0
    refine ⟨_, w, fun cs => ?_, Ge.refl _ _, hF _ ?_ Mod.refl⟩
    · have := Lib.run_unsafeString_none (P := P) w pt it ty p
      simp only [builtin, Sem.run_bind, List.length_nil]
      erw [this]
      rfl
    · have := hB.2.1
      simp at this
      subst this
      exact hB
  · rcases hB.2.2 with ⟨_, h1⟩ | ⟨q, rest, h1, h2, h3, h4, h5, h6⟩
    · have h7 := hB.1
      rw [h1] at h7
      exact absurd (List.length_eq_zero_iff.1 (by omega)) h0
    · subst h1
      obtain ⟨cs, g1, g2⟩ := row_of h6
      have hkl := hB.2.1
      have hcs : cs.toList.length = l.length + rest.length := by
        have := congrArg List.length g2
        rw [maskL_len] at this
        rw [this]
        simp; omega
      have cell : ∀ (j : Nat) (x : UInt8), l[j]? = some x → cs[j]? = some (Value.int .u8 (x.toNat : Nat)) := fun j x hj => by
        have hjl : j < l.length := by
          rcases Nat.lt_or_ge j l.length with h | h
          · exact h
          · rw [List.getElem?_eq_none h] at hj; cases hj
        have e1 : (maskL 0 k cs.toList)[j]? = ((l.take k).map f8 ++ ((l.drop k).map b8 ++ rest))[j]? := by rw [g2]
        rw [maskL_get, List.getElem?_eq_getElem (by omega)] at e1
        have ex : l[j] = x := by rw [List.getElem?_eq_getElem hjl] at hj; exact Option.some.inj hj
        by_cases hjk : j < k
        · rw [List.getElem?_append_left (by simp; omega)] at e1
          simp only [Option.map_some, Nat.zero_le, hjk, and_self, if_true, List.getElem?_map, List.getElem?_take, hj] at e1
          simp only [Option.some.injEq, f8, Value.tuple.injEq, Array.mk.injEq, List.cons.injEq, and_true] at e1
          rw [← Array.getElem?_toList, List.getElem?_eq_getElem (by omega), e1]
          rfl
        · rw [List.getElem?_append_right (by simp; omega), List.getElem?_append_left (by simp; omega)] at e1
          simp only [Option.map_some, Nat.zero_le, hjk, and_false, if_false, List.length_map, List.length_take, show min k l.length = k by omega, List.getElem?_map, List.getElem?_drop] at e1
          rw [show k + (j - k) = j by omega, hj] at e1
          simp only [Option.map_some, Option.some.injEq] at e1
          rw [← Array.getElem?_toList, List.getElem?_eq_getElem (by omega)]
          generalize cs.toList[j] = u at e1 ⊢
          cases u <;> simp [emb, b8] at e1 ⊢ <;> exact e1
      have hne : ¬ l.length = 0 := fun e => h0 (List.length_eq_zero_iff.1 e)
      have hfz : (w.freeze ⟨q, 0, none⟩ l.length).heap[q]? = some (.cells cs e (0, l.length)) := by
        unfold World.freeze
        rw [if_neg hne]
        simp only [Array.getElem?_modify, if_true, g1, Option.map_some]
        by_cases hk : k = 0
        · subst hk; simp
        · have : (0 == k) = false := by simp; omega
          simp only [this]
          simp; omega
      have hother : ∀ x, x ≠ q → (w.freeze ⟨q, 0, none⟩ l.length).heap[x]? = w.heap[x]? := fun x hx => by
        unfold World.freeze
        rw [if_neg hne]
        simp only [Array.getElem?_modify]
        rw [if_neg (Ne.symm hx)]
      have hrest : ∀ i, i < rest.length → cs.toList[l.length + i]? = rest[i]? ∧ ∀ v, rest[i]? = some v → notT v = true := fun i hi => by
        have e1 : (maskL 0 k cs.toList)[l.length + i]? = ((l.take k).map f8 ++ ((l.drop k).map b8 ++ rest))[l.length + i]? := by rw [g2]
        rw [maskL_get, List.getElem?_eq_getElem (by omega), List.getElem?_append_right (by simp; omega), List.getElem?_append_right (by simp; omega)] at e1
        simp only [Option.map_some, Nat.zero_le, show ¬ l.length + i < k by omega, and_false, if_false, List.length_map, List.length_take, List.length_drop, show min k l.length = k by omega, show l.length + i - k - (l.length - k) = i by omega] at e1
        have hv : isCell rest[i] = true := List.all_eq_true.1 h5 _ (List.getElem_mem hi)
        rw [List.getElem?_eq_getElem hi] at e1 ⊢
        simp only [Option.some.injEq] at e1
        refine ⟨?_, fun v hv' => by rw [← Option.some.inj hv']; exact isCell_notT hv⟩
        rw [List.getElem?_eq_getElem (by omega)]
        generalize cs.toList[l.length + i] = u at e1 ⊢
        rw [← e1] at hv
        rw [← e1]
        cases u <;> first | rfl | (simp [emb, isCell] at hv)
      have hmask : maskL 0 l.length cs.toList = (l.take l.length).map f8 ++ ((l.drop l.length).map b8 ++ rest) := by
        apply List.ext_getElem?
        intro i
        rw [maskL_get]
        by_cases hi : i < l.length
        · have := cell i l[i] (List.getElem?_eq_getElem hi)
          rw [Array.getElem?_toList, this, List.getElem?_append_left (by simpa using hi)]
          simp only [Option.map_some, Nat.zero_le, hi, and_self, if_true, List.getElem?_map, List.take_length, List.getElem?_eq_getElem hi]
          rfl
        · by_cases hi2 : i < l.length + rest.length
          · obtain ⟨r1, r2⟩ := hrest (i - l.length) (by omega)
            rw [show l.length + (i - l.length) = i by omega] at r1
            rw [r1, List.getElem?_append_right (by simp; omega)]
            simp only [List.take_length, List.length_map, List.drop_length, List.map_nil, List.nil_append]
            rw [List.getElem?_eq_getElem (by omega)]
            simp only [Option.map_some, hi, and_false, if_false]
            rw [emb_notT (r2 _ (List.getElem?_eq_getElem (by omega)))]
          · rw [List.getElem?_eq_none (by omega), List.getElem?_eq_none (by simp; omega)]
            rfl
      have hhp : ∀ x, hp (w.freeze ⟨q, 0, none⟩ l.length) x = if x = q then some (((l.take l.length).map f8 ++ ((l.drop l.length).map b8 ++ rest)) ++ [tyM e 0 l.length]) else hp w x := fun x => by
        split
        · rename_i hx
          subst hx
          unfold hp
          rw [hfz]
          simp only [Option.bind_some, objB]
          rw [mkl_eq, hmask]
          unfold mkT; rw [hs]; rfl
        · rename_i hx
          unfold hp
          rw [hother x hx]
      refine ⟨_, w.freeze ⟨q, 0, none⟩ l.length, fun cs' => ?_, ?_, hF _ ⟨hB.1, Nat.le_refl _, .inr ⟨q, rest, rfl, h2, h3, h4, h5, ?_⟩⟩ ?_⟩
      · have := Lib.run_unsafeString_row (P := P) w pt it ty e hpt hc q cs.size (shape_of g1) l h0 (by simp at hcs; omega) hlen (fun j x hj => by
          rw [add_off]
          simp [World.cell?, g1, cell j x hj])
        simp only [builtin, Sem.run_bind]
        erw [this]
        rfl
      · refine ⟨by unfold World.freeze; split <;> simp, fun b _ hb hn => hother b (fun e => by rw [e, h6] at hn; cases hn), ?_, ?_, ?_, fun b _ hb => ?_⟩
        · unfold World.freeze; split <;> rfl
        · unfold World.freeze; split <;> rfl
        · unfold World.freeze; split <;> rfl
        · by_cases hbq : b = q
          · subst hbq
            unfold tagAt
            rw [hfz, g1]
            simp only [Option.bind_some, tagOf]
            by_cases hk : k = l.length
            · rw [hk]; exact .refl _
            · refine .inr ⟨_, 0, k, 0, l.length, cs.size, rfl, rfl, fun i _ _ hi => ⟨Nat.zero_le _, by omega⟩, k, ?_, ⟨Nat.zero_le _, by omega⟩, fun h => by omega⟩
              simp at hcs; omega
          · exact .of (tag_of_same (hother b hbq))
      · rw [hhp, if_pos rfl]
      · intro b hb d hd
        rw [hhp, if_neg (fun e => hb (by rw [e]; simp [blkL]))]
        exact hd

/-- Nothing is copied. -/
theorem blt_copy0 {t u ty e : TypeId} {s : Nat} {p q : Option Addr} {n c c' : Nat} {F : Value → Hp → Prop} (ht : P.underlying t = some (.slice e)) (hi : (P.info? e).map (fun i => i.size) = some s) (hF : F (.int .i64 0) H) : BLT P .copy [t, u] ty [.slice p n c, .slice q 0 c'] H F := fun w hw => by
  subst hw
  obtain ⟨i, hi, _⟩ := info_of hi
  refine ⟨_, w, fun cs => ?_, Ge.refl _ _, hF⟩
  have hm : Nat.min 0 n = 0 := Nat.zero_min n
  cases p <;> cases q <;> simp [builtin, Builtin.copy_, run_underlying ht, Builtin.lenOf, hm, Builtin.firstCells, storeCells, run_sizeOf hi, loadCells, loadCellsFrom, goInt]
end
end Go.V
namespace Go.V
open Go
/-! ### Rows of rows that are done -/
theorem Mod.keep {H H' : Hp} {O : List Nat} (h : Mod O H H') {b : Nat} (ho : b ∉ O) (hb : H b ≠ none) : H' b = H b := by
  cases e : H b with
  | none => exact absurd e hb
  | some d => exact h b ho d e
theorem Mod.via {O : List Nat} {A H H' : Hp} {p : Option Addr} (h : Mod O A H) (h' : Mod (blkL p) H H') (hp : ∀ b ∈ blkL p, b ∈ O ∨ A b = none) : Mod O A H' := fun b hb c e => by
  refine h' b (fun hx => ?_) c (h b hb c e)
  rcases hp b hx with h1 | h1
  · exact hb h1
  · rw [h1] at e; cases e
/-- append(out, x..). -/
theorem Buf.appM {s : Nat} {A H : Hp} {p : Option Addr} {l c : Nat} {cells : List Value} (hB : Buf s A H p l c cells) {te : TE} {x : Value} {new : List Value} {n : Nat} (hs : te.size = s) (hpos : 0 < s) (hz : te.zc.length = s) (hbp : 0 < te.bytes)
    (hnl : new.length = n * s) (hcell : new.all isCell = true) (hfit : (l + n) * te.bytes ≤ 140737488355328) (hsrc : ∀ G : Nat → List Value → Prop, G n new → srcCells H s x G)
    {F : Option Addr → Nat → Nat → Hp → Prop}
    (hF : ∀ p' c' H', Buf s A H' p' (l + n) c' (cells ++ new) → (p' = p ∨ New H p') → Mod (blkL p) H H' → F p' (l + n) c' H') (hA : Le A H) (hzc : te.zc.all isCell = true := by rfl) (htl : te.tl = [] := by rfl) :
    APP H te p l c x F := by
  have hB0 := hB
  refine Buf.appN (A := but H p) (hB.base fun b hb _ => by unfold but; rw [hb]; simp) hs hpos hz hbp hnl hcell hfit but_le hsrc (fun p' c' H' h1 h2 h3 => hF p' c' H' (h1.base fun b hb hn => ?_) ?_ ?_) hzc htl
  · rcases but_none hn with ⟨a, hp, ha⟩ | h
    · rcases hB.2 with ⟨h0, _, _⟩ | ⟨b', r, h1, h2, _⟩
      · rw [h0] at hp; cases hp
      · rw [h1] at hp; simp only [Option.some.injEq] at hp; subst hp; simp only at ha; subst ha; exact h2
    · exact none_of_le hA h
  · rcases h1.2 with ⟨h0, _, _⟩ | ⟨b', r, h4, h5, _⟩
    · right; rw [h0]; exact New.none
    · rcases but_none h5 with ⟨a, hp, ha⟩ | h
      · left
        rcases hB.2 with ⟨h0, _, _⟩ | ⟨b'', r, h6, _⟩
        · rw [h0] at hp; cases hp
        · rw [h6] at hp; simp only [Option.some.injEq] at hp; subst hp; simp only at ha; subst ha; rw [h4, h6]
      · right; rw [h4]; exact New.some h
  · intro b hb d hd
    rw [h3 b (by rw [hd]; intro h; cases h) (fun e => hb (by rw [e]; simp [blkL]))]; exact hd

/-- What was, is. -/
def Was (A H : Hp) : Prop := ∀ b, H b = none → A b = none
theorem Le.was {A H : Hp} (h : Le A H) : Was A H := fun _ e => none_of_le h e
theorem Was.trans {A B C : Hp} (h : Was A B) (h' : Was B C) : Was A C := fun b e => h b (h' b e)
theorem Mod.was {O : List Nat} {A H : Hp} (h : Mod O A H) (hO : ∀ b ∈ O, H b ≠ none) : Was A H := fun b e => by
  cases hA : A b with
  | none => rfl
  | some d => rw [h b (fun hb => hO b hb e) d hA] at e; cases e
def dmn (A H : Hp) : Hp := fun b => match A b with | none => none | some _ => H b
theorem dmn_le {A H : Hp} : Le (dmn A H) H := fun b d e => by
  unfold dmn at e
  split at e
  · cases e
  · exact e
theorem dmn_none {A H : Hp} {b : Nat} (h : A b = none) : dmn A H b = none := by unfold dmn; rw [h]
theorem none_dmn {A H : Hp} (hA : Was A H) {b : Nat} (h : dmn A H b = none) : A b = none := by
  unfold dmn at h
  split at h
  · assumption
  · exact hA b h
theorem Buf.appS {s : Nat} {A H : Hp} {p : Option Addr} {l c : Nat} {cells : List Value} (hB : Buf s A H p l c cells) {te : TE} {x : Value} {new : List Value} {n : Nat} (hs : te.size = s) (hpos : 0 < s) (hz : te.zc.length = s) (hbp : 0 < te.bytes)
    (hnl : new.length = n * s) (hcell : new.all isCell = true) (hfit : (l + n) * te.bytes ≤ 140737488355328) (hsrc : ∀ G : Nat → List Value → Prop, G n new → srcCells H s x G)
    {F : Option Addr → Nat → Nat → Hp → Prop}
    (hF : ∀ p' c' H', Buf s A H' p' (l + n) c' (cells ++ new) → (p' = p ∨ New H p') → Mod (blkL p) H H' → F p' (l + n) c' H') (hA : Was A H) (hzc : te.zc.all isCell = true := by rfl) (htl : te.tl = [] := by rfl) :
    APP H te p l c x F :=
  (hB.base (A' := dmn A H) fun _ _ e => dmn_none e).appM hs hpos hz hbp hnl hcell hfit hsrc (fun p' c' H' h1 h2 h3 => hF p' c' H' (h1.base fun _ _ e => none_dmn hA e) h2 h3) dmn_le hzc htl
theorem Buf.pushS {s : Nat} {A H : Hp} {p : Option Addr} {l c : Nat} {cells : List Value} (hB : Buf s A H p l c cells) {te : TE} {new : List Value} (hs : te.size = s) (hpos : 0 < s) (hz : te.zc.length = s) (hbp : 0 < te.bytes)
    (hnl : new.length = s) (hcell : new.all isCell = true) (hfit : (l + 1) * te.bytes ≤ 140737488355328)
    {F : Option Addr → Nat → Nat → Hp → Prop}
    (hF : ∀ p' c' H', Buf s A H' p' (l + 1) c' (cells ++ new) → (p' = p ∨ New H p') → Mod (blkL p) H H' → F p' (l + 1) c' H') (hA : Was A H) (hzc : te.zc.all isCell = true := by rfl) (htl : te.tl = [] := by rfl) :
    NEW H new fun b H1 => APP H1 te p l c (.slice (some ⟨b, 0, Option.none⟩) 1 1) F :=
  (hB.base (A' := dmn A H) fun _ _ e => dmn_none e).pushM hs hpos hz hbp hnl hcell hfit (fun p' c' H' h1 h2 h3 => hF p' c' H' (h1.base fun _ _ e => none_dmn hA e) h2 h3) dmn_le hzc htl
def Rw (A H : Hp) (p : Option Addr) (l c : Nat) (rows : List (List Nat)) : Prop :=
  ∃ hs : List Hd, hs.length = rows.length ∧ Buf 1 A H p l c (hs.map hv) ∧
    ∀ k (h : k < hs.length) (h' : k < rows.length), Sl iv H hs[k].1 hs[k].2.1 hs[k].2.2 rows[k] ∧ New A hs[k].1 ∧ (∀ x ∈ blkL hs[k].1, H x ≠ none) ∧ PtOk hs[k].1 ∧ Apart p hs[k].1
theorem Rw.none {A H : Hp} : Rw A H none 0 0 [] := ⟨[], rfl, Buf.none, fun k h => by simp at h⟩
section
variable {A H H' : Hp} {p : Option Addr} {l c : Nat} {rows : List (List Nat)} {O : List Nat}
theorem Rw.len (h : Rw A H p l c rows) : l = rows.length := by
  obtain ⟨hs, h1, h2, _⟩ := h
  have := h2.1
  simp at this; omega
theorem blkL_some {q : Option Addr} {b o : Nat} (e : q = some ⟨b, o, Option.none⟩) : b ∈ blkL q := by rw [e]; simp [blkL]
theorem blkL_new {q : Option Addr} (h : New A q) (hp : PtOk q) : ∀ b ∈ blkL q, A b = Option.none := fun b hb => by
  rcases hp with rfl | ⟨b', o, rfl⟩
  · simp [blkL] at hb
  · simp [blkL] at hb; subst hb; exact h b o rfl
theorem Rw.mod (h : Rw A H p l c rows) (hm : Mod O H H') (hO : ∀ b ∈ O, A b ≠ Option.none) : Rw A H' p l c rows := by
  obtain ⟨hs, h1, h2, h3⟩ := h
  refine ⟨hs, h1, h2.mod hm fun b o e hb => hO b hb (h2.fr b o e), fun k a b => ?_⟩
  obtain ⟨g1, g2, g3, g4, g5⟩ := h3 k a b
  have hno : ∀ x ∈ blkL hs[k].1, x ∉ O := fun x hx hb => hO x hb (blkL_new g2 g4 x hx)
  refine ⟨g1.mod hm fun x o e => hno x (blkL_some e), g2, fun x hx => ?_, g4, g5⟩
  rw [Mod.keep hm (hno x hx) (g3 x hx)]; exact g3 x hx
theorem Rw.le (h : Rw A H p l c rows) (hm : Le H H') : Rw A H' p l c rows := h.mod (O := []) hm.mod (by simp)
theorem Rw.base {A' : Hp} (h : Rw A H p l c rows) (hA : Le A' A) : Rw A' H p l c rows := by
  obtain ⟨hs, h1, h2, h3⟩ := h
  exact ⟨hs, h1, h2.base fun b _ e => none_of_le hA e, fun k a b => ⟨(h3 k a b).1, (h3 k a b).2.1.le hA, (h3 k a b).2.2⟩⟩
/-- out = append(out, row). -/
theorem Rw.push (h : Rw A H p l c rows) (hA : Was A H) {q : Option Addr} {m k : Nat} {row : List Nat} (hq : Sl iv H q m k row) (hn : New A q) (ht : ∀ x ∈ blkL q, H x ≠ Option.none) (ho : PtOk q) (hap : Apart p q)
    {te : TE} (hs : te.size = 1) (hz : te.zc.length = 1) (hbp : 0 < te.bytes) (hfit : (l + 1) * te.bytes ≤ 140737488355328) (hzc : te.zc.all isCell = true)
    {F : Option Addr → Nat → Nat → Hp → Prop} (hF : ∀ p' c' H', Rw A H' p' (l + 1) c' (rows ++ [row]) → (p' = p ∨ New H p') → Mod (blkL p) H H' → F p' (l + 1) c' H') (htl : te.tl = [] := by rfl) :
    NEW H [.slice q m k] fun b H1 => APP H1 te p l c (.slice (some ⟨b, 0, Option.none⟩) 1 1) F := by
  obtain ⟨hds, h1, h2, h3⟩ := h
  refine h2.pushS hs (by decide) hz hbp rfl rfl hfit (fun p' c' H' hB hp' hm => hF p' c' H' ⟨hds ++ [(q, m, k)], by simp [h1], by simpa [hv] using hB, fun i hi hi' => ?_⟩ hp' hm) hA hzc htl
  have key : ∀ {q' : Option Addr} {m' k' : Nat} {row' : List Nat}, Sl iv H q' m' k' row' → New A q' → (∀ x ∈ blkL q', H x ≠ Option.none) → PtOk q' → Apart p q' → Sl iv H' q' m' k' row' ∧ New A q' ∧ (∀ x ∈ blkL q', H' x ≠ Option.none) ∧ PtOk q' ∧ Apart p' q' := by
    intro q' m' k' row' g1 g2 g3 g4 g5
    have hno : ∀ x ∈ blkL q', x ∉ blkL p := fun x hx hb => by
      have hpz := blkL_mem h2.zero hb
      rcases g4 with rfl | ⟨b', o, rfl⟩
      · simp [blkL] at hx
      · simp [blkL] at hx; subst hx; exact g5 _ _ _ hpz rfl
    refine ⟨g1.mod hm fun x o e => hno x (blkL_some e), g2, fun x hx => by rw [Mod.keep hm (hno x hx) (g3 x hx)]; exact g3 x hx, g4, ?_⟩
    rcases hp' with rfl | hp'
    · exact g5
    · exact fun b o o' e e' => g3 b (blkL_some e') (hp' b o e)
  by_cases e : i < hds.length
  · simp only [List.getElem_append_left e, List.getElem_append_left (show i < rows.length by omega)]
    obtain ⟨g1, g2, g3, g4, g5⟩ := h3 i e (by omega)
    exact key g1 g2 g3 g4 g5
  · have e1 : i = hds.length := by simp at hi; omega
    subst e1
    simp only [List.getElem_append_right (Nat.le_refl _), Nat.sub_self, List.getElem_singleton]
    have e2 : (rows ++ [row])[hds.length]'hi' = row := by simp [h1]
    rw [e2]
    exact key hq hn ht ho hap
/-- A look at row k. -/
theorem Rw.at (h : Rw A H p l c rows) {i : Int} {k : Nat} (hi : i = (k : Int)) (hk : k < rows.length) {F : Option Addr → Nat → Nat → Prop} (hF : ∀ q l' c', Sl iv H q l' c' rows[k] → PtOk q → New A q → F q l' c') :
    IDX i l fun j => NIL p fun b o => ldL (rd H b (o + j)) F := by
  have hl := h.len
  obtain ⟨hs, h1, h2, h3⟩ := h
  obtain ⟨b, rfl⟩ := h2.some_of (by omega)
  refine idxN k hi (by omega) (nil ?_)
  have hk' : k < hs.length := by omega
  refine ldL_i (p := hs[k].1) (l := hs[k].2.1) (c := hs[k].2.2) (h2.rd (by simp [hk', hv])) ?_
  exact hF _ _ _ (h3 k hk' hk).1 (h3 k hk' hk).2.2.2.1 (h3 k hk' hk).2.1
/-- The first of row k. -/
theorem Rw.hd (h : Rw A H p l c rows) {i : Int} {k : Nat} (hi : i = (k : Int)) (hk : k < rows.length) (hne : rows[k] ≠ []) {F : Int → Prop} (hF : F (((rows[k].getD 0 0 : Nat)) : Int)) :
    IDX i l fun j => NIL p fun b o => ldL (rd H b (o + j)) fun xp xl _ => IDX (0 : Int) xl fun k2 => NIL xp fun b2 o2 => ldI .i64 (rd H b2 (o2 + k2)) F := by
  refine h.at hi hk fun q l' c' hs _ _ => ?_
  have hpos : 0 < rows[k].length := List.length_pos_iff.2 hne
  have hl := hs.len
  refine slI hs (g := fun (x : Nat) => (x : Int)) (fun _ => rfl) (by omega) (by omega) fun _ => ?_
  have e : rows[k].getD 0 0 = rows[k][(0 : Int).toNat]'(by simpa using hpos) := by simp [List.getD, hpos]
  rw [← e]; exact hF
end
theorem Mod.drop {O O' : List Nat} {H H' : Hp} (h : Mod O H H') (hs : ∀ b ∈ O, b ∈ O' ∨ H b = none) : Mod O' H H' := fun b hb c e => by
  refine h b (fun hx => ?_) c e
  rcases hs b hx with h1 | h1
  · exact hb h1
  · rw [h1] at e; cases e
end Go.V
namespace Go.V
open Go.ChangeShapes Go.WideShapes Go.ChangeAt Go.RowKit Go.WideElems Go.WideMaps

theorem wf_u8 {n : Int} (h : (Lit.int .u8 n).wf = true) : 0 ≤ n ∧ n ≤ 255 := by
  simp [Lit.wf, IntKind.min, IntKind.max, IntKind.signed, IntKind.bits] at h; omega
theorem wf_i64 {n : Int} (h : (Lit.int .i64 n).wf = true) : -9223372036854775808 ≤ n ∧ n ≤ 9223372036854775807 := by
  simp [Lit.wf, IntKind.min, IntKind.max, IntKind.signed, IntKind.bits] at h; omega
structure Kept (w w' : World) : Prop where
  below : Below w.heap.size w w'
theorem Kept.fz {w w' : World} (h : Kept w w') (a : Addr) (ha : a.block < w.heap.size) : w'.frozen? a = w.frozen? a := by
  unfold World.frozen?
  rw [h.below.block _ ha]

theorem CallH.calls [Sp] {P : Program} {k : FuncId} {args : List Value} {w : World} {K : Value → Hp → Prop} {f : Func} (h : CallH P k args (hp w) K) (hf : P.funcs[k]? = some f) (hb : f.body.isSome = true) :
    Calls P k ⟨args⟩ w fun e w' => ∃ v, e = .returned v ∧ K v (hp w') ∧ Ge 0 w w' := by
  rcases h w rfl with h | ⟨⟨fn, h1, h2⟩, _⟩
  · exact h.2
  · rw [hf] at h1
    cases h1
    rw [h2] at hb; cases hb
theorem calls_true [Sp] {P : Program} {k : FuncId} {args : List Value} {w : World} {f : Func} (h : CallH P k args (hp w) fun v H' => liftB v fun r => r = true ∧ Le (hp w) H') (hf : P.funcs[k]? = some f) (hb : f.body.isSome = true) :
    Calls P k ⟨args⟩ w fun e w' => e = .returned (.bool true) ∧ Kept w w' :=
  (h.calls hf hb).mono fun _ _ ⟨v, he, hv, hg⟩ => by
    cases v <;> first | exact hv.elim | exact ⟨by rw [he, hv.1], ⟨belowOf hg hv.2⟩⟩

section
variable {H : Type} {enc : TypeId × Value → H} {P : Program}
theorem trodAll_stays (hl : laidOutB P = true) {W W' : World} {sp : Nat → Bool} : ∀ {ts : List TypeId} {vs : List Value} {ds : List (DataW H)} {ps : List MemPlace}, (∀ t ∈ ts, P.readableRec t = true ∧ t < P.types.size) →
    DataW.TrodAll enc P W 0 (fun _ => true) true ts vs ds ps → Below W.heap.size W W' → (∀ x ∈ ps, x.block < W.heap.size) → (∀ x ∈ ps, sp x.block = true) → DataW.TrodAll enc P W' 0 sp true ts vs ds ps
  | [], [], [], _, _, h, _, _, _ => h
  | [], [], _ :: _, _, _, h, _, _, _ => h.elim
  | [], _ :: _, _, _, _, h, _, _, _ => h.elim
  | _ :: _, [], _, _, _, h, _, _, _ => h.elim
  | _ :: _, _ :: _, [], _, _, h, _, _, _ => h.elim
  | t :: ts, v :: vs, d :: ds, ps, ht, ⟨p, q, h1, h2, e⟩, hb, hlt, hs =>
    ⟨p, q, Trod_stays hl (ht t (by simp)).1 (ht t (by simp)).2 h1 (fun x hx => hb.same (hlt x (by rw [e]; exact List.mem_append_left _ hx))) (fun x hx => hs x (by rw [e]; exact List.mem_append_left _ hx)),
      trodAll_stays hl (fun t ht' => ht t (by simp [ht'])) h2 hb (fun x hx => hlt x (by rw [e]; exact List.mem_append_right _ hx)) (fun x hx => hs x (by rw [e]; exact List.mem_append_right _ hx)), e⟩

/-- What is told of a call that leaves what came in as it was. -/
theorem post_same {f : Func} {s : ChangeSpec} {apart fresh handsOn again : Bool} {W W' : World} {args : Array Value} {v : Value} {ds gs : List (DataW H)} {before pa pv : List MemPlace}
    (hW : DataW.Whole enc P f.params.toList s.vars apart W args.toList ds gs before)
    (hres : ∀ (b : Nat) (sp : Nat → Bool) (hd : Bool), DataW.TrodAll enc P W' b sp hd f.resultTypes.toList (v.resultList f.resultTypes.size) (s.fn H (ds ++ gs)).results [])
    (hargs : ∀ sp : Nat → Bool, (∀ p ∈ before, sp p.block = true) → DataW.TrodAll enc P W' 0 sp true f.params.toList args.toList (s.fn H (ds ++ gs)).args pa)
    (hvars : ∀ sp : Nat → Bool, (∀ p ∈ before, sp p.block = true) → DataW.TrodVars enc P W' sp s.vars (s.fn H (ds ++ gs)).vars pv)
    (hps : before = pa ++ pv) (hk : W.keptBut W' (· ∈ before)) (hfz : ∀ x ∈ before, ∀ a : Addr, a.block = x.block → W'.frozen? a = W.frozen? a)
    (hok : ∀ (j : Nat) (t : TypeId) (r : Value), f.resultTypes[j]? = some t → (v.resultList f.resultTypes.size)[j]? = some r → Value.okWide P W' .any 0 t r) :
    s.post enc P f apart fresh handsOn again W args v W' := by
  have all : ∀ p ∈ before, (fun b => decide (b < W.heap.size)) p.block = true := fun p hp => decide_eq_true (hW.lt p hp)
  have one : ∀ p ∈ before, (fun _ : Nat => true) p.block = true := fun _ _ => rfl
  refine ⟨ds, gs, before, [], pa, pv, hW, hres _ _ _, hargs _ all, hvars _ all, World.keptBut_mono (fun p hp => ⟨hp, .inr (List.mem_append.1 (hps ▸ hp))⟩) hk, fun _ => ⟨hok, _, _, ([] ++ pa) ++ pv, ⟨[] ++ pa, pv, trodAll_append (hargs _ one) (hres _ _ _), hvars _ one, rfl, ?_, ?_⟩, ?_⟩⟩
  all_goals rw [List.nil_append, ← hps]
  · obtain ⟨_, _, _, _, _, hz, _⟩ := hW
    intro b off hp
    rw [hfz _ hp _ rfl]
    exact hz b off hp
  · obtain ⟨_, _, _, _, _, _, hn⟩ := hW
    exact hn
  · intro p hp _
    exact hp

/-- THE ROW's POST, for what only reads and returns true. -/
theorem post_true (hl : laidOutB P = true) {f : Func} {s : ChangeSpec} {apart fresh handsOn again : Bool} {W W' : World} {args : Array Value} {ds gs : List (DataW H)} {before : List MemPlace}
    (hW : DataW.Whole enc P f.params.toList s.vars apart W args.toList ds gs before) (hts0 : (f.params.toList.all fun t => P.readableRec t && decide (t < P.types.size)) = true) (hv : s.vars = [])
    (hfn : s.fn H ds = { results := [.lit (.bool true)], args := ds }) {bt : TypeId} (hr : f.resultTypes = #[bt]) (hb : P.underlying bt = some .bool) (hk : Kept W W') :
    s.post enc P f apart fresh handsOn again W args (.bool true) W' := by
  have hW' := hW
  have hts : ∀ t ∈ f.params.toList, P.readableRec t = true ∧ t < P.types.size := fun t ht => by
    have := List.all_eq_true.1 hts0 t ht
    simpa using this
  obtain ⟨p, q, hA, hV, e, hfz, hnd⟩ := hW
  have hlt : ∀ x ∈ before, x.block < W.heap.size := fun x hx => hW'.lt x hx
  rw [hv] at hV
  obtain ⟨rfl, rfl⟩ := trodVars_none hV
  rw [List.append_nil] at e
  subst e
  have hfn : s.fn H (ds ++ []) = { results := [.lit (.bool true)], args := ds } := by rw [List.append_nil]; exact hfn
  refine post_same (pa := before) (pv := []) hW' ?_ ?_ ?_ (by simp) ?_ (fun x hx a ha => hk.fz a (by rw [ha]; exact hlt x hx)) ?_
  · intro b sp hd
    rw [hfn, hr]
    exact trodAll_mk1 ⟨1, by simp [DataW.trod, hb, Value.cells]⟩
  · intro sp hs
    rw [hfn]
    exact trodAll_stays hl hts hA hk.below hlt hs
  · intro sp _
    rw [hv, hfn]
    rfl
  · refine ⟨hk.below.os, hk.below.output, fun i hi => ?_⟩
    rw [hk.below.block i hi]
    cases h : W.heap[i]? with
    | none => simp
    | some o => cases o <;> simp
  · intro j t r hj hr'
    rw [hr] at hj hr'
    match j, hj, hr' with
    | 0, hj, hr' =>
      simp [Value.resultList] at hj hr'
      subst hj; subst hr'
      exact okWide_bool_mk hb true
    | j + 1, hj, _ => simp at hj

theorem rd_of_cell [Sp] {w : World} {b o : Nat} {v : Value} (h : w.cell? ⟨b, o, none⟩ = some v) (hf : w.frozen? ⟨b, o, none⟩ = false) (hv : isCell v = true) : rd (hp w) b o = some v := by
  unfold World.cell? at h
  unfold World.frozen? at hf
  simp only [rd, hp]
  cases hb : w.heap[b]? with
  | none => simp [hb] at h
  | some ob =>
    cases ob with
    | cells c t fz =>
      obtain ⟨lo, hi⟩ := fz
      simp only [hb, Option.isSome_none, Bool.false_eq_true, if_false] at h
      simp only [hb, Bool.and_eq_false_imp, decide_eq_true_eq, decide_eq_false_iff_not] at hf
      simp only [Option.bind_some, objB]
      rw [mkl_get, maskL_get]
      have : c.toList[o]? = some v := by simpa using h
      rw [this, Option.map_some, Option.bind_some, if_neg (by omega), emb_notT (isCell_notT hv)]
      exact nm_cell hv
    | _ => simp [hb] at h

theorem spot_none {w : World} {a : Addr} {v : Value} (h : w.cell? a = some v) : a = ⟨a.block, a.off, none⟩ := by
  obtain ⟨b, o, s⟩ := a
  unfold World.cell? at h
  cases s with
  | none => rfl
  | some x => split at h <;> simp at h

theorem add_zero' (a : Addr) : a.add 0 = a := by
  obtain ⟨b, o, s⟩ := a
  unfold Addr.add
  split <;> simp_all

theorem row_mem {a : Addr} {n i : Nat} (h : i < n) : MemPlace.cell a.block (a.off + i) ∈ MemPlace.row a n := by
  simp only [MemPlace.row, List.mem_map, List.mem_range]
  exact ⟨i, h, rfl⟩

/-- A slice of numbers that came in. -/
theorem open_slI [Sp] {t e : TypeId} {k : IntKind} {W : World} {base : Nat} {v : Value} {d : DataW H} {p before : List MemPlace} (ht : P.underlying t = some (.slice e)) (he : P.underlying e = some (.int k)) (hc : P.cellsOf e = 1)
    (hval : Value.okWide P W .any base t v) (h : DataW.Trod enc P W 0 (fun _ => true) true t v d p) (hsub : ∀ x ∈ p, x ∈ before) (hno : W.noneFrozen before) :
    ∃ q l c xs, v = .slice q l c ∧ Sl (.int k) (hp W) q l c xs ∧ c ≤ maxLen ∧ ∀ x ∈ xs, (Lit.int k x).wf = true := by
  obtain ⟨a0, len, cap, rfl⟩ := okWide_slice ht hval
  obtain ⟨fuel, hf⟩ := h
  rcases open_ints ht he hc hf with ⟨hcs, hx⟩ | ⟨a, len', cap', zs, hcs, _, hl, hm, hz, hx, hcell, hw⟩
  · simp only [Value.cells, List.cons.injEq, Value.slice.injEq, and_true] at hcs
    obtain ⟨rfl, rfl, rfl⟩ := hcs
    exact ⟨none, 0, 0, [], rfl, Sl.nil, by decide, fun x hx => by cases hx⟩
  · simp only [Value.cells, List.cons.injEq, Value.slice.injEq, and_true] at hcs
    obtain ⟨rfl, rfl, rfl⟩ := hcs
    simp only [Prod.mk.injEq] at hx
    refine ⟨_, _, _, zs.take len, rfl, ⟨?_, hl, ?_⟩, hm, fun x hx => hw x (List.mem_of_mem_take hx)⟩
    · simp only [if_true] at hz
      rw [List.length_take]; omega
    · by_cases hn : zs.length = 0
      · left
        rw [List.length_eq_zero_iff.1 hn]; simp
      · right
        have h0 := hcell 0 (by omega)
        rw [add_zero'] at h0
        have ha := spot_none h0
        refine ⟨a.block, a.off, by rw [← ha], fun i hi => ?_⟩
        have hi' : i < zs.length := by rw [List.length_take] at hi; omega
        have h1 := hcell i hi'
        rw [ha, add_off] at h1
        have h2 : zs.getD i 0 = (zs.take len)[i] := by rw [List.getElem_take]; simp [List.getD, hi']
        rw [h2] at h1
        exact rd_of_cell h1 (hno _ _ (hsub _ (by rw [hx.2]; exact row_mem hi'))) rfl

/-- A slice of pairs of numbers that came in. -/
theorem open_snP [Sp] {t e u : TypeId} {f0 f1 : Field} {W : World} {base : Nat} {v : Value} {d : DataW H} {p before : List MemPlace} (ht : P.underlying t = some (.slice e)) (he : P.underlying e = some (.struct #[f0, f1]))
    (ce : P.cellsOf e = 2) (o0 : f0.offset = 0) (o1 : f1.offset = 1) (u0 : f0.type = u) (u1 : f1.type = u) (hu : P.underlying u = some (.int .i64)) (hc : P.cellsOf u = 1)
    (hval : Value.okWide P W .any base t v) (h : DataW.Trod enc P W 0 (fun _ => true) true t v d p) (hsub : ∀ x ∈ p, x ∈ before) (hno : W.noneFrozen before) :
    ∃ q l c xs, v = .slice q l c ∧ Sn 2 pairC (hp W) q l c xs ∧ c ≤ maxLen ∧ ∀ x ∈ xs, (Lit.int .i64 x.1).wf = true ∧ (Lit.int .i64 x.2).wf = true := by
  obtain ⟨a0, len, cap, rfl⟩ := okWide_slice ht hval
  obtain ⟨fuel, hf⟩ := h
  rcases Deep.open_slice_pairs ht he ce o0 o1 (by rw [u0]; exact hc) (by rw [u1]; exact hc) hf with ⟨hcs, hx⟩ | ⟨a, len', cap', m, n, V0, V1, D0, D1, P0, P1, hcs, _, hl, hm, hmm, hx, hcell⟩
  · simp only [Value.cells, List.cons.injEq, Value.slice.injEq, and_true] at hcs
    obtain ⟨rfl, rfl, rfl⟩ := hcs
    exact ⟨none, 0, 0, [], rfl, Sn.nil, by decide, fun x hx => by cases hx⟩
  · simp only [Value.cells, List.cons.injEq, Value.slice.injEq, and_true] at hcs
    obtain ⟨rfl, rfl, rfl⟩ := hcs
    simp only [Prod.mk.injEq] at hx
    simp only [if_true] at hmm
    subst hmm
    have each : ∀ i, i < m → ∃ x : Int × Int, V0 i = .int .i64 x.1 ∧ V1 i = .int .i64 x.2 ∧ (Lit.int .i64 x.1).wf = true ∧ (Lit.int .i64 x.2).wf = true := fun i hi => by
      obtain ⟨_, _, h3, h4⟩ := hcell i hi
      rw [u0] at h3; rw [u1] at h4
      obtain ⟨x, e0, _, wx⟩ := DataW.trod_int hu h3
      obtain ⟨y, e1, _, wy⟩ := DataW.trod_int hu h4
      exact ⟨(x, y), by simpa using e0, by simpa using e1, wx, wy⟩
    have pick : ∃ g : Nat → Int × Int, ∀ i, i < m → V0 i = .int .i64 (g i).1 ∧ V1 i = .int .i64 (g i).2 ∧ (Lit.int .i64 (g i).1).wf = true ∧ (Lit.int .i64 (g i).2).wf = true :=
      ⟨fun i => if h : i < m then Classical.choose (each i h) else (0, 0), fun i hi => by simp only [hi, dif_pos]; exact Classical.choose_spec (each i hi)⟩
    obtain ⟨g, hg⟩ := pick
    refine ⟨_, _, _, (List.range len).map g, rfl, ⟨by simp, hl, ?_⟩, hm, fun x hx => ?_⟩
    · by_cases hn : m = 0
      · left
        have : len = 0 := by omega
        rw [this]; rfl
      · right
        have h0 := (hcell 0 (by omega)).1
        rw [Nat.zero_mul, add_zero'] at h0
        have ha := spot_none h0
        refine ⟨a.block, a.off, by rw [← ha], fun i hi j v e => ?_⟩
        have hi' : i < m := by simp at hi; omega
        obtain ⟨c1, c2, _, _⟩ := hcell i hi'
        obtain ⟨e1, e2, _, _⟩ := hg i hi'
        rw [ha, add_off] at c1 c2
        simp only [List.getElem_map, List.getElem_range] at e
        match j, e with
        | 0, e =>
          simp only [pairC, List.getElem?_cons_zero, Option.some.injEq] at e
          subst e
          rw [e1] at c1
          exact rd_of_cell c1 (hno _ _ (hsub _ (by rw [hx.2]; exact List.mem_append_left _ (row_mem (by omega))))) rfl
        | 1, e =>
          simp only [pairC, List.getElem?_cons_succ, List.getElem?_cons_zero, Option.some.injEq] at e
          subst e
          rw [e2] at c2
          exact rd_of_cell c2 (hno _ _ (hsub _ (by rw [hx.2]; exact List.mem_append_left _ (row_mem (i := i * 2 + 1) (by omega))))) rfl
        | j + 2, e => simp [pairC] at e
    · obtain ⟨i, hi, rfl⟩ := List.mem_map.1 hx
      have hi := List.mem_range.1 hi
      exact (hg i (by omega)).2.2
end
end Go.V
namespace Go.V
open Go.ChangeShapes Go.WideShapes Go.ChangeAt Go.RowKit Go.WideElems Go.WideMaps

/-- How a value lies in memory: its cells, and what stands behind them. -/
structure Enc (α : Type) where
  n : Nat
  rep : Hp → List Value → α → Prop
  len : ∀ {H cs x}, rep H cs x → cs.length = n
  cell : ∀ {H cs x v}, rep H cs x → v ∈ cs → isCell v = true
  le : ∀ {H H' cs x}, rep H cs x → Le H H' → rep H' cs x
def Enc.int (k : IntKind) : Enc Int := ⟨1, fun _ cs x => cs = [.int k x] ∧ (Lit.int k x).wf = true, fun h => by rw [h.1]; rfl, fun h hv => by rw [h.1] at hv; simp at hv; subst hv; rfl, fun h _ => h⟩
def Enc.bool : Enc Bool := ⟨1, fun _ cs x => cs = [.bool x], fun h => by rw [h]; rfl, fun h hv => by rw [h] at hv; simp at hv; subst hv; rfl, fun h _ => h⟩
def Enc.str : Enc ByteArray := ⟨1, fun _ cs x => cs = [.string x] ∧ x.size ≤ maxLen, fun h => by rw [h.1]; rfl, fun h hv => by rw [h.1] at hv; simp at hv; subst hv; rfl, fun h _ => h⟩
def Enc.pair {α β : Type} (E : Enc α) (F : Enc β) : Enc (α × β) :=
  ⟨E.n + F.n, fun H cs x => ∃ c1 c2, cs = c1 ++ c2 ∧ E.rep H c1 x.1 ∧ F.rep H c2 x.2, fun ⟨c1, c2, e, h1, h2⟩ => by rw [e, List.length_append, E.len h1, F.len h2], fun ⟨c1, c2, e, h1, h2⟩ hv => by rw [e] at hv; exact (List.mem_append.1 hv).elim (E.cell h1) (F.cell h2), fun ⟨c1, c2, e, h1, h2⟩ hle => ⟨c1, c2, e, E.le h1 hle, F.le h2 hle⟩⟩
def Enc.rows {α : Type} (E : Enc α) (H : Hp) (p : Option Addr) (l c : Nat) (xs : List α) : Prop :=
  l = xs.length ∧ l ≤ c ∧ c ≤ maxLen ∧ (0 < c → ∃ b o, p = some ⟨b, o, none⟩) ∧
    ∀ b o, p = some ⟨b, o, none⟩ → ∀ i (h : i < xs.length), ∃ cs, E.rep H cs xs[i] ∧ ∀ j v, cs[j]? = some v → rd H b (o + i * E.n + j) = some v
theorem Enc.rows.le {α : Type} {E : Enc α} {H H' : Hp} {p : Option Addr} {l c : Nat} {xs : List α} (h : E.rows H p l c xs) (hle : Le H H') : E.rows H' p l c xs :=
  ⟨h.1, h.2.1, h.2.2.1, h.2.2.2.1, fun b o e i hi => by
    obtain ⟨cs, h1, h2⟩ := h.2.2.2.2 b o e i hi
    exact ⟨cs, E.le h1 hle, fun j v hj => hle.rd (h2 j v hj)⟩⟩
def Enc.sl {α : Type} (E : Enc α) : Enc (List α) :=
  ⟨1, fun H cs xs => ∃ p l c, cs = [.slice p l c] ∧ E.rows H p l c xs, fun ⟨_, _, _, e, _⟩ => by rw [e]; rfl, fun ⟨_, _, _, e, _⟩ hv => by rw [e] at hv; simp at hv; subst hv; rfl, fun ⟨p, l, c, e, h⟩ hle => ⟨p, l, c, e, h.le hle⟩⟩

/-- What is read at type t is a value as E says. -/
def Opens [Sp] {α : Type} (P : Program) (t : TypeId) (E : Enc α) : Prop :=
  P.cellsOf t = E.n ∧ ∀ (Ht : Type) (enc : TypeId × Value → Ht) (W : World) (fuel : Nat) (cs : List Value) (d : DataW Ht) (p before : List MemPlace),
    DataW.trod enc P W 0 (fun _ => true) true fuel t cs = some (d, p) → (∀ x ∈ p, x ∈ before) → W.noneFrozen before → ∃ x, E.rep (hp W) cs x

section
set_option linter.unusedSectionVars false
variable [Sp] {P : Program} {t e : TypeId}
theorem opens_int {k : IntKind} (ht : P.underlying t = some (.int k)) (hc : P.cellsOf t = 1) : Opens P t (Enc.int k) :=
  ⟨hc, fun _ _ _ _ _ _ _ _ h _ _ => by obtain ⟨n, h1, _, h3⟩ := DataW.trod_int ht h; exact ⟨n, h1, h3⟩⟩
theorem opens_bool (ht : P.underlying t = some .bool) (hc : P.cellsOf t = 1) : Opens P t Enc.bool :=
  ⟨hc, fun _ _ _ _ _ _ _ _ h _ _ => by obtain ⟨n, h1, _⟩ := DataW.trod_bool ht h; exact ⟨n, h1⟩⟩
theorem opens_str (ht : P.underlying t = some .string) (hc : P.cellsOf t = 1) : Opens P t Enc.str :=
  ⟨hc, fun _ _ _ _ _ _ _ _ h _ _ => by obtain ⟨n, h1, _, h3⟩ := DataW.trod_string ht h; exact ⟨n, h1, h3⟩⟩

theorem opens_rows {α : Type} {E : Enc α} (hpos : 0 < E.n) (ht : P.underlying t = some (.slice e)) (hE : Opens P e E) {Ht : Type} {enc : TypeId × Value → Ht} {W : World} {fuel : Nat} {cs : List Value} {d : DataW Ht} {p before : List MemPlace}
    (h : DataW.trod enc P W 0 (fun _ => true) true fuel t cs = some (d, p)) (hsub : ∀ x ∈ p, x ∈ before) (hno : W.noneFrozen before) : ∃ q l c xs, cs = [.slice q l c] ∧ E.rows (hp W) q l c xs := by
  rcases Deep.open_slice ht h with ⟨hcs, hx⟩ | ⟨a, len, cap, m, n, D, Pl, hcs, _, hl, hm, hmm, hx, hel⟩
  · exact ⟨none, 0, 0, [], hcs, rfl, Nat.le_refl _, by decide, fun h => absurd h (by decide), fun b o e => by cases e⟩
  · simp only [if_true] at hmm
    subst hmm
    simp only [Prod.mk.injEq] at hx
    have hp := hx.2
    have hE1 := hE.1
    by_cases hm0 : m = 0
    · subst hm0
      have : len = 0 := by omega
      subst this
      exact ⟨some a, 0, 0, [], hcs, rfl, Nat.le_refl _, by decide, fun h => absurd h (by decide), fun b o _ i hi => by simp at hi⟩
    · have plain : ∃ b o, a = ⟨b, o, none⟩ := by
        obtain ⟨cs', h1, _⟩ := hel 0 (by omega)
        obtain ⟨_, h3, h4⟩ := World.cells?_some h1
        have h5 := h4 0 (by omega)
        rw [Nat.zero_mul, add_zero', add_zero', List.getElem?_eq_getElem (by omega)] at h5
        exact ⟨_, _, spot_none h5⟩
      obtain ⟨b, o, rfl⟩ := plain
      have hcell0 : ∀ i, i < m → ∀ j, j < P.cellsOf e → MemPlace.cell b (o + (i * P.cellsOf e + j)) ∈ before := fun i hi j hj => by
        refine hsub _ ?_
        rw [hp]
        refine List.mem_append_left _ (row_mem (a := ⟨b, o, none⟩) ?_)
        have : (i + 1) * P.cellsOf e ≤ m * P.cellsOf e := Nat.mul_le_mul_right _ hi
        rw [Nat.add_mul] at this; omega
      have each : ∀ i, i < m → ∃ x, ∃ cs, E.rep (Go.V.hp W) cs x ∧ ∀ j v, cs[j]? = some v → rd (Go.V.hp W) b (o + i * E.n + j) = some v := fun i hi => by
        obtain ⟨cs', h1, h2⟩ := hel i hi
        obtain ⟨_, h3, h4⟩ := World.cells?_some h1
        obtain ⟨x, hx⟩ := hE.2 Ht enc W n cs' (D i) (Pl i) before h2 (fun x hx' => hsub _ (by rw [hp]; exact List.mem_append_right _ (List.mem_flatMap.2 ⟨i, List.mem_range.2 hi, hx'⟩))) hno
        refine ⟨x, cs', hx, fun j v hj => ?_⟩
        have hjl : j < P.cellsOf e := by
          rcases Nat.lt_or_ge j cs'.length with h | h
          · omega
          · rw [List.getElem?_eq_none h] at hj; cases hj
        have h5 := h4 j hjl
        rw [hj, add_off, add_off] at h5
        rw [← hE1]
        refine rd_of_cell h5 ?_ (E.cell hx (List.mem_of_getElem? hj))
        have := hcell0 i hi j hjl
        rw [← Nat.add_assoc] at this
        exact hno _ _ this
      have pick : ∃ g : Nat → α, ∀ i, i < m → ∃ cs, E.rep (Go.V.hp W) cs (g i) ∧ ∀ j v, cs[j]? = some v → rd (Go.V.hp W) b (o + i * E.n + j) = some v := by
        obtain ⟨x0, _⟩ := each 0 (by omega)
        refine ⟨fun i => if h : i < m then Classical.choose (each i h) else x0, fun i hi => ?_⟩
        simp only [hi, dif_pos]
        exact Classical.choose_spec (each i hi)
      obtain ⟨g, hg⟩ := pick
      refine ⟨_, len, m, (List.range len).map g, hcs, by simp, hl, hm, fun _ => ⟨b, o, rfl⟩, fun b' o' e i hi => ?_⟩
      simp only [Option.some.injEq, Addr.mk.injEq, and_true] at e
      obtain ⟨rfl, rfl⟩ := e
      simp at hi
      simp only [List.getElem_map, List.getElem_range]
      exact hg i (by omega)
theorem opens_sl {α : Type} {E : Enc α} (hpos : 0 < E.n) (ht : P.underlying t = some (.slice e)) (hc : P.cellsOf t = 1) (hE : Opens P e E) : Opens P t E.sl :=
  ⟨hc, fun _ _ _ _ _ _ _ _ h hsub hno => by
    obtain ⟨q, l, c, xs, h1, h2⟩ := opens_rows hpos ht hE h hsub hno
    exact ⟨xs, q, l, c, h1, h2⟩⟩

/-- The fields from an offset on. -/
def OpensF [Sp] {α : Type} (P : Program) (fs : List Field) (off : Nat) (E : Enc α) : Prop :=
  ∀ (Ht : Type) (enc : TypeId × Value → Ht) (W : World) (fuel : Nat) (cs : List Value) (before : List MemPlace), cs.length = off + E.n →
    (∀ f ∈ fs, ∃ d p, DataW.trod enc P W 0 (fun _ => true) true fuel f.type ((cs.drop f.offset).take (P.cellsOf f.type)) = some (d, p) ∧ ∀ x ∈ p, x ∈ before) → W.noneFrozen before → ∃ x, E.rep (hp W) (cs.drop off) x
theorem opensF_one {α : Type} {E : Enc α} {f : Field} {off : Nat} (ho : f.offset = off) (hE : Opens P f.type E) : OpensF P [f] off E := by
  intro Ht enc W fuel cs before hl h hno
  obtain ⟨d, p, h1, h2⟩ := h f (by simp)
  obtain ⟨x, hx⟩ := hE.2 Ht enc W fuel _ d p before h1 h2 hno
  refine ⟨x, ?_⟩
  rw [ho, hE.1, List.take_of_length_le (by rw [List.length_drop]; omega)] at hx
  exact hx
theorem opensF_cons {α β : Type} {E : Enc α} {F : Enc β} {f : Field} {fs : List Field} {off off' : Nat} (ho : f.offset = off) (hE : Opens P f.type E) (ho' : off' = off + E.n) (hF : OpensF P fs off' F) : OpensF P (f :: fs) off (E.pair F) := by
  intro Ht enc W fuel cs before hl h hno
  obtain ⟨d, p, h1, h2⟩ := h f (by simp)
  obtain ⟨x, hx⟩ := hE.2 Ht enc W fuel _ d p before h1 h2 hno
  have hl' : cs.length = off + (E.n + F.n) := hl
  obtain ⟨y, hy⟩ := hF Ht enc W fuel cs before (by omega) (fun g hg => h g (by simp [hg])) hno
  refine ⟨(x, y), _, _, ?_, hx, hy⟩
  rw [ho, hE.1, ho']
  rw [← List.drop_drop]
  exact (List.take_append_drop E.n (cs.drop off)).symm
theorem opens_st {α : Type} {E : Enc α} {fs : List Field} (ht : P.underlying t = some (.struct ⟨fs⟩)) (hc : P.cellsOf t = E.n) (hF : OpensF P fs 0 E) : Opens P t E := by
  refine ⟨hc, fun Ht enc W fuel cs d p before h hsub hno => ?_⟩
  obtain ⟨xs, n, rfl, hx, hl, hxl, hf⟩ := DataW.trod_struct ht h
  simp only [Prod.mk.injEq] at hx
  obtain ⟨x, hx'⟩ := hF Ht enc W n cs before (by omega) (fun f hf' => by
    obtain ⟨i, hi, rfl⟩ := List.mem_iff_getElem.1 hf'
    have h1 := hf i fs[i] (by simp [hi])
    have hi' : i < xs.length := by rw [hxl]; simpa using hi
    rw [List.getElem?_eq_getElem hi'] at h1
    refine ⟨_, _, h1, fun x hx' => hsub x ?_⟩
    rw [hx.2]
    exact List.mem_flatMap.2 ⟨_, List.getElem_mem hi', hx'⟩) hno
  exact ⟨x, by simpa using hx'⟩
theorem openE {α : Type} {E : Enc α} {H : Type} {enc : TypeId × Value → H} {W : World} {v : Value} {d : DataW H} {p before : List MemPlace} (hE : Opens P t E) (h : DataW.Trod enc P W 0 (fun _ => true) true t v d p) (hsub : ∀ x ∈ p, x ∈ before) (hno : W.noneFrozen before) :
    ∃ x, E.rep (hp W) v.cells.toList x := by
  obtain ⟨fuel, hf⟩ := h
  exact hE.2 H enc W fuel _ d p before hf hsub hno
/-- A slice that came in. -/
theorem openSl {α : Type} {E : Enc α} {H : Type} {enc : TypeId × Value → H} {W : World} {base : Nat} {v : Value} {d : DataW H} {p before : List MemPlace} (hpos : 0 < E.n) (ht : P.underlying t = some (.slice e)) (hE : Opens P e E)
    (hval : Value.okWide P W .any base t v) (h : DataW.Trod enc P W 0 (fun _ => true) true t v d p) (hsub : ∀ x ∈ p, x ∈ before) (hno : W.noneFrozen before) :
    ∃ q l c xs, v = .slice q l c ∧ E.rows (hp W) q l c xs := by
  obtain ⟨a0, len, cap, rfl⟩ := okWide_slice ht hval
  obtain ⟨fuel, hf⟩ := h
  obtain ⟨q, l, c, xs, h1, h2⟩ := opens_rows hpos ht hE hf hsub hno
  simp only [Value.cells, List.cons.injEq, and_true] at h1
  exact ⟨q, l, c, xs, h1, h2⟩
end

/-- A struct that came in. -/
theorem openSt [Sp] {P : Program} {t : TypeId} {α : Type} {E : Enc α} {H : Type} {enc : TypeId × Value → H} {W : World} {base : Nat} {v : Value} {d : DataW H} {p before : List MemPlace} {fs : Array Field} (ht : P.underlying t = some (.struct fs)) (hE : Opens P t E)
    (hval : Value.okWide P W .any base t v) (h : DataW.Trod enc P W 0 (fun _ => true) true t v d p) (hsub : ∀ x ∈ p, x ∈ before) (hno : W.noneFrozen before) : ∃ cs x, v = .agg ⟨cs⟩ ∧ E.rep (hp W) cs x := by
  have hv : ∃ cs : Array Value, v = .agg cs := by
    unfold Value.okWide at hval
    rw [ht] at hval
    obtain ⟨cs, h, _⟩ := hval
    exact ⟨cs, h⟩
  obtain ⟨cs, rfl⟩ := hv
  obtain ⟨x, hx⟩ := openE hE h hsub hno
  exact ⟨cs.toList, x, rfl, hx⟩
theorem trodAll_six {H : Type} {enc : TypeId × Value → H} {P : Program} {w : World} {base : Nat} {spare : Nat → Bool} {held : Bool} {t0 t1 t2 t3 t4 t5 : TypeId} {args : Array Value} {ds : List (DataW H)} {ps : List MemPlace} (h : DataW.TrodAll enc P w base spare held [t0, t1, t2, t3, t4, t5] args.toList ds ps) :
    ∃ v0 v1 v2 v3 v4 v5 d0 d1 d2 d3 d4 d5 p0 p1 p2 p3 p4 p5, args = #[v0, v1, v2, v3, v4, v5] ∧ ds = [d0, d1, d2, d3, d4, d5] ∧ ps = p0 ++ p1 ++ p2 ++ p3 ++ p4 ++ p5 ∧ DataW.Trod enc P w base spare held t0 v0 d0 p0 ∧ DataW.Trod enc P w base spare held t1 v1 d1 p1 ∧ DataW.Trod enc P w base spare held t2 v2 d2 p2 ∧ DataW.Trod enc P w base spare held t3 v3 d3 p3 ∧ DataW.Trod enc P w base spare held t4 v4 d4 p4 ∧ DataW.Trod enc P w base spare held t5 v5 d5 p5 := by
  obtain ⟨v0, vs, d0, ds0, p0, q0, hargs, rfl, rfl, h0, r0⟩ := trodAll_cons h
  obtain ⟨v1, vs1, d1, ds1, p1, q1, rfl, rfl, rfl, h1, r1⟩ := trodAll_cons r0
  obtain ⟨v2, vs2, d2, ds2, p2, q2, rfl, rfl, rfl, h2, r2⟩ := trodAll_cons r1
  obtain ⟨v3, vs3, d3, ds3, p3, q3, rfl, rfl, rfl, h3, r3⟩ := trodAll_cons r2
  obtain ⟨v4, vs4, d4, ds4, p4, q4, rfl, rfl, rfl, h4, r4⟩ := trodAll_cons r3
  obtain ⟨v5, vs5, d5, ds5, p5, q5, rfl, rfl, rfl, h5, r5⟩ := trodAll_cons r4
  obtain ⟨rfl, rfl, rfl⟩ := trodAll_nil r5
  exact ⟨v0, v1, v2, v3, v4, v5, d0, d1, d2, d3, d4, d5, p0, p1, p2, p3, p4, p5, by cases args; simp_all, rfl, by simp, h0, h1, h2, h3, h4, h5⟩

theorem trodAll_five {H : Type} {enc : TypeId × Value → H} {P : Program} {w : World} {base : Nat} {spare : Nat → Bool} {held : Bool} {t0 t1 t2 t3 t4 : TypeId} {args : Array Value} {ds : List (DataW H)} {ps : List MemPlace} (h : DataW.TrodAll enc P w base spare held [t0, t1, t2, t3, t4] args.toList ds ps) :
    ∃ v0 v1 v2 v3 v4 d0 d1 d2 d3 d4 p0 p1 p2 p3 p4, args = #[v0, v1, v2, v3, v4] ∧ ds = [d0, d1, d2, d3, d4] ∧ ps = p0 ++ p1 ++ p2 ++ p3 ++ p4 ∧ DataW.Trod enc P w base spare held t0 v0 d0 p0 ∧ DataW.Trod enc P w base spare held t1 v1 d1 p1 ∧ DataW.Trod enc P w base spare held t2 v2 d2 p2 ∧ DataW.Trod enc P w base spare held t3 v3 d3 p3 ∧ DataW.Trod enc P w base spare held t4 v4 d4 p4 := by
  obtain ⟨v0, vs, d0, ds0, p0, q0, hargs, rfl, rfl, h0, r0⟩ := trodAll_cons h
  obtain ⟨v1, vs1, d1, ds1, p1, q1, rfl, rfl, rfl, h1, r1⟩ := trodAll_cons r0
  obtain ⟨v2, vs2, d2, ds2, p2, q2, rfl, rfl, rfl, h2, r2⟩ := trodAll_cons r1
  obtain ⟨v3, vs3, d3, ds3, p3, q3, rfl, rfl, rfl, h3, r3⟩ := trodAll_cons r2
  obtain ⟨v4, vs4, d4, ds4, p4, q4, rfl, rfl, rfl, h4, r4⟩ := trodAll_cons r3
  obtain ⟨rfl, rfl, rfl⟩ := trodAll_nil r4
  exact ⟨v0, v1, v2, v3, v4, d0, d1, d2, d3, d4, p0, p1, p2, p3, p4, by cases args; simp_all, rfl, by simp, h0, h1, h2, h3, h4⟩

/-! ### What such rows are to contracts -/
theorem Enc.rows.sl {α : Type} {E : Enc α} {f : α → Value} (h1 : E.n = 1) (hf : ∀ {H cs x}, E.rep H cs x → cs = [f x]) {H : Hp} {p : Option Addr} {l c : Nat} {xs : List α} (h : E.rows H p l c xs) : Sl f H p l c xs := by
  refine ⟨h.1, h.2.1, ?_⟩
  by_cases hn : xs = []
  · exact .inl hn
  · right
    have hpos : 0 < xs.length := List.length_pos_iff.2 hn
    obtain ⟨b, o, hp⟩ := h.2.2.2.1 (by have := h.1; have := h.2.1; omega)
    refine ⟨b, o, hp, fun i hi => ?_⟩
    obtain ⟨cs, h2, h3⟩ := h.2.2.2.2 b o hp i hi
    have := h3 0 (f xs[i]) (by rw [hf h2]; rfl)
    rwa [h1, Nat.mul_one, Nat.add_zero] at this
theorem Enc.rows.ints {k : IntKind} {H : Hp} {p : Option Addr} {l c : Nat} {xs : List Int} (h : (Enc.int k).rows H p l c xs) : Sl (.int k) H p l c xs := h.sl (E := Enc.int k) rfl fun h => (show _ ∧ _ from h).1
theorem Enc.rows.bools {H : Hp} {p : Option Addr} {l c : Nat} {xs : List Bool} (h : Enc.bool.rows H p l c xs) : Sl .bool H p l c xs := h.sl (E := Enc.bool) rfl fun h => h
theorem Enc.rows.strs {H : Hp} {p : Option Addr} {l c : Nat} {xs : List ByteArray} (h : Enc.str.rows H p l c xs) : Sl .string H p l c xs := h.sl (E := Enc.str) rfl fun h => (show _ ∧ _ from h).1
theorem Enc.rows.each {α : Type} {E : Enc α} {H : Hp} {p : Option Addr} {l c : Nat} {xs : List α} (h : E.rows H p l c xs) : ∀ x ∈ xs, ∃ cs, E.rep H cs x := by
  intro x hx
  obtain ⟨i, hi, rfl⟩ := List.mem_iff_getElem.1 hx
  obtain ⟨b, o, hp⟩ := h.2.2.2.1 (by have := h.1; have := h.2.1; omega)
  obtain ⟨cs, h2, _⟩ := h.2.2.2.2 b o hp i hi
  exact ⟨cs, h2⟩
theorem Enc.rows.wf {k : IntKind} {H : Hp} {p : Option Addr} {l c : Nat} {xs : List Int} (h : (Enc.int k).rows H p l c xs) : ∀ x ∈ xs, (Lit.int k x).wf = true := fun x hx => by obtain ⟨_, h⟩ := h.each x hx; exact h.2
theorem Enc.rows.pairs {H : Hp} {p : Option Addr} {l c : Nat} {xs : List (Int × Int)} (h : ((Enc.int .i64).pair (Enc.int .i64)).rows H p l c xs) : Sn 2 pairC H p l c xs := by
  refine ⟨h.1, h.2.1, ?_⟩
  by_cases hn : xs = []
  · exact .inl hn
  · right
    have hpos : 0 < xs.length := List.length_pos_iff.2 hn
    obtain ⟨b, o, hp⟩ := h.2.2.2.1 (by have := h.1; have := h.2.1; omega)
    refine ⟨b, o, hp, fun i hi j v e => ?_⟩
    obtain ⟨cs, ⟨c1, c2, h2, h3, h4⟩, h5⟩ := h.2.2.2.2 b o hp i hi
    refine h5 j v ?_
    rw [h2, (show _ ∧ _ from h3).1, (show _ ∧ _ from h4).1]
    exact e
theorem Enc.rows.pairsWf {H : Hp} {p : Option Addr} {l c : Nat} {xs : List (Int × Int)} (h : ((Enc.int .i64).pair (Enc.int .i64)).rows H p l c xs) : ∀ x ∈ xs, (Lit.int .i64 x.1).wf = true ∧ (Lit.int .i64 x.2).wf = true := fun x hx => by
  obtain ⟨_, c1, c2, _, h3, h4⟩ := h.each x hx
  exact ⟨(show _ ∧ _ from h3).2, (show _ ∧ _ from h4).2⟩
theorem Enc.rows.sn {α : Type} {E : Enc α} {g : α → List Value} (hf : ∀ {H cs x}, E.rep H cs x → cs = g x) {H : Hp} {p : Option Addr} {l c : Nat} {xs : List α} (h : E.rows H p l c xs) : Sn E.n g H p l c xs := by
  refine ⟨h.1, h.2.1, ?_⟩
  by_cases hn : xs = []
  · exact .inl hn
  · right
    have hpos : 0 < xs.length := List.length_pos_iff.2 hn
    obtain ⟨b, o, hp⟩ := h.2.2.2.1 (by have := h.1; have := h.2.1; omega)
    refine ⟨b, o, hp, fun i hi j v e => ?_⟩
    obtain ⟨cs, h2, h3⟩ := h.2.2.2.2 b o hp i hi
    rw [← hf h2] at e
    exact h3 j v e
theorem Sn.map {α β : Type} {n : Nat} {g : β → List Value} {t : α → β} {H : Hp} {p : Option Addr} {l c : Nat} {xs : List α} (h : Sn n (fun x => g (t x)) H p l c xs) : Sn n g H p l c (xs.map t) := by
  refine ⟨by rw [List.length_map]; exact h.1, h.2.1, h.2.2.imp (fun e => by rw [e]; rfl) fun ⟨b, o, e, hh⟩ => ⟨b, o, e, fun i hi j v hv => ?_⟩⟩
  rw [List.length_map] at hi
  rw [List.getElem_map] at hv
  exact hh i hi j v hv
theorem Enc.rows.pt {α : Type} {E : Enc α} {H : Hp} {p : Option Addr} {l c : Nat} {xs : List α} (h : E.rows H p l c xs) (hc : 0 < c) : PtOk p := .inr (h.2.2.2.1 hc)
end Go.V
namespace Go.V
set_option linter.unusedSectionVars false

section
variable [Sp] {P : Program} {w : World}

theorem mapV_hd (es : List MapEntry) (c : Nat) : (mapV es c)[0]? = some (.tuple ⟨[.int .i64 c, .bool true, .bool true]⟩) := rfl
theorem row_hd {lo hi : Nat} {t : TypeId} {fz : Nat × Nat} {l : List Value} {a b c : Value} : (mkl (maskL lo hi l) (mkT t fz))[0]? ≠ some (.tuple ⟨[a, b, c]⟩) := by
  intro h
  rw [mkl_eq] at h
  cases l with
  | nil =>
    have e : maskL lo hi [] = [] := rfl
    rw [e, List.nil_append] at h
    unfold mkT at h
    cases hs : Sp.sp t <;> rw [hs] at h <;> simp [tyM] at h
  | cons v l =>
    rw [List.getElem?_append_left (by rw [maskL_len]; simp), maskL_get] at h
    simp only [List.getElem?_cons_zero, Option.map_some, Option.some.injEq] at h
    split at h
    · simp at h
    · cases v <;> simp [emb] at h
theorem row_hd4 {lo hi : Nat} {t : TypeId} {fz : Nat × Nat} {l : List Value} {a b c d : Value} : (mkl (maskL lo hi l) (mkT t fz))[0]? ≠ some (.tuple ⟨[a, b, c, d]⟩) := by
  intro h
  rw [mkl_eq] at h
  cases l with
  | nil =>
    have e : maskL lo hi [] = [] := rfl
    rw [e, List.nil_append] at h
    unfold mkT at h
    cases hs : Sp.sp t <;> rw [hs] at h <;> simp [tyM] at h
  | cons v l =>
    rw [List.getElem?_append_left (by rw [maskL_len]; simp), maskL_get] at h
    simp only [List.getElem?_cons_zero, Option.map_some, Option.some.injEq] at h
    split at h
    · simp at h
    · cases v <;> simp [emb] at h
theorem map_view {m : Nat} {es : List MapEntry} {c : Nat} (h : hp w m = some (mapV es c)) : w.heap[m]? = some (.map ⟨es⟩ c) := by
  unfold hp at h
  cases hm : w.heap[m]? with
  | none => rw [hm] at h; cases h
  | some o =>
    rw [hm] at h
    cases o <;> simp only [Option.bind_some, objB, reduceCtorEq, Option.some.injEq] at h
    case cells c' t fz => exact absurd ((congrArg (fun l => l[0]?) h).trans (mapV_hd es c)) row_hd
    case map es' c' =>
      obtain ⟨h1, h2⟩ := mapV_inj h
      obtain ⟨es'⟩ := es'
      simp only at h1
      rw [h1, h2]
    case mapIter => exact absurd (congrArg (fun l => l[0]?) h) (by simp [iterV, mapV])
theorem iter_view {r : Nat} {m : Option Nat} {a b : Nat} {seen : List Nat} (h : hp w r = some (iterV m a seen b)) : w.heap[r]? = some (.mapIter m a ⟨seen⟩ b) := by
  unfold hp at h
  cases hm : w.heap[r]? with
  | none => rw [hm] at h; cases h
  | some o =>
    rw [hm] at h
    cases o <;> simp only [Option.bind_some, objB, reduceCtorEq, Option.some.injEq] at h
    case cells c' t fz => exact absurd ((congrArg (fun l => l[0]?) h).trans rfl) row_hd4
    case map es' c' => exact absurd (congrArg (fun l => l[0]?) h) (by simp [iterV, mapV])
    case mapIter m' a' s' b' =>
      obtain ⟨h1, h2, h3, h4⟩ := iterV_inj h
      obtain ⟨s'⟩ := s'
      simp only at h3
      rw [h1, h2, h3, h4]

/-- Another state of a map or an iterator. -/
theorem put_view {m : Nat} {o o' : Obj} {c : List Value} (hm : w.heap[m]? = some o) (ho : objB o' = some c) (hs : (objB o).isSome = true) (ht : tagOf o' = tagOf o) :
    ∃ w', w' = ({ w with heap := w.heap.setIfInBounds m o' } : World) ∧ hp w' = upd (hp w) m c ∧ Ge 0 w w' := by
  refine ⟨_, rfl, ?_, ⟨by simp, fun b _ hb hn => ?_, rfl, rfl, rfl, fun b _ _ => .of ?_⟩⟩
  · funext x
    by_cases hx : x = m
    · subst hx; simp [hp, upd, (MapKept.heap_set (o' := o') hm).1, ho]
    · simp [hp, upd, (MapKept.heap_set (o' := o') hm).2 x hx, hx]
  · have hx : b ≠ m := fun e => by subst e; simp only [hp, hm, Option.bind_some] at hn; rw [hn] at hs; cases hs
    exact (MapKept.heap_set (o' := o') hm).2 b hx
  · by_cases hx : b = m
    · subst hx; simp [tagAt, (MapKept.heap_set (o' := o') hm).1, hm, ht]
    · simp [tagAt, (MapKept.heap_set (o' := o') hm).2 b hx]
end

/-! ### Keys -/
/-- What the model does with keys of a type, seen as the values of κ. -/
structure KyOk {κ : Type} (P : Program) (kt : TypeId) (enc : κ → Value) : Prop where
  inj : ∀ a b, enc a = enc b → a = b
  check : ∀ w em a, (Instr.checkKey em 10000 kt (enc a)).run P w = .ok () w
  find : ∀ w a (es : List MapEntry), (∀ e ∈ es, ∃ b, e.key = enc b) →
    ((Instr.findKey kt (enc a) es).run P w = .ok none w ∧ ∀ e ∈ es, e.key ≠ enc a) ∨ ∃ (j : Nat) (e : MapEntry), (Instr.findKey kt (enc a) es).run P w = .ok (some (j, e.val)) w ∧ es[j]? = some e ∧ e.key = enc a
  stays : ∀ w a, (Instr.keyThatStays (enc a) (enc a)).run P w = .ok (enc a) w

theorem KyOk.int {P : Program} {kt : TypeId} {k : IntKind} (h : P.underlying kt = some (.int k)) : KyOk P kt (fun n : Int => Value.int k n) where
  inj := fun a b e => by simpa using e
  check := fun w em a => MapKept.run_checkKey h (k := .int k a) rfl em 9999
  find := fun w a es hk => by
    rcases MapKept.findNow_spec (d := .int k) (k := .int k a) rfl es 0 (fun e he => by obtain ⟨b, hb⟩ := hk e he; rw [hb]; rfl) with ⟨h1, h2⟩ | ⟨j, e, h1, h2, h3⟩
    · exact .inl ⟨MapKept.run_findKey h h1, h2⟩
    · exact .inr ⟨j, e, by simpa using MapKept.run_findKey h h1, h2, h3⟩
  stays := fun w a => by simp [Instr.keyThatStays, Instr.sameBits]

theorem KyOk.str {P : Program} {kt : TypeId} (h : P.underlying kt = some .string) : KyOk P kt (fun s : ByteArray => Value.string s) where
  inj := fun a b e => by simpa using e
  check := fun w em a => MapKept.run_checkKey h (k := .string a) trivial em 9999
  find := fun w a es hk => by
    rcases MapKept.findNow_spec (d := .string) (k := .string a) trivial es 0 (fun e he => by obtain ⟨b, hb⟩ := hk e he; rw [hb]; trivial) with ⟨h1, h2⟩ | ⟨j, e, h1, h2, h3⟩
    · exact .inl ⟨MapKept.run_findKey h h1, h2⟩
    · exact .inr ⟨j, e, by simpa using MapKept.run_findKey h h1, h2, h3⟩
  stays := fun w a => by simp [Instr.keyThatStays, Instr.sameBits, MapKept.bytes_beq]

/-! ### Rows of keys and values -/
section
variable {κ : Type} [DecidableEq κ]
def mget (l : List (κ × Value)) (a : κ) : Option Value := (l.find? fun p => decide (p.1 = a)).map (·.2)
def mset (l : List (κ × Value)) (a : κ) (v : Value) : List (κ × Value) :=
  match mget l a with
  | some _ => l.map fun p => if p.1 = a then (a, v) else p
  | none => l ++ [(a, v)]
def mdel (l : List (κ × Value)) (a : κ) : List (κ × Value) := l.filter fun p => !decide (p.1 = a)

theorem mget_nil {a : κ} : mget ([] : List (κ × Value)) a = none := rfl
theorem mget_cons {p : κ × Value} {l : List (κ × Value)} {a : κ} : mget (p :: l) a = if p.1 = a then some p.2 else mget l a := by
  simp only [mget, List.find?_cons]
  by_cases h : p.1 = a <;> simp [h]
theorem mget_none {l : List (κ × Value)} {a : κ} : mget l a = none ↔ ∀ p ∈ l, p.1 ≠ a := by
  induction l with
  | nil => simp [mget_nil]
  | cons p l ih =>
    rw [mget_cons]
    by_cases h : p.1 = a
    · simp [h]
    · simp [h, ih]
theorem mget_mem {l : List (κ × Value)} {a : κ} {v : Value} (h : mget l a = some v) : (a, v) ∈ l := by
  induction l with
  | nil => simp [mget_nil] at h
  | cons p l ih =>
    rw [mget_cons] at h
    split at h
    · rename_i e
      simp only [Option.some.injEq] at h
      subst e; subst h
      exact .head _
    · exact .tail _ (ih h)
theorem mget_of {l : List (κ × Value)} (hn : (l.map (·.1)).Nodup) {a : κ} {v : Value} (h : (a, v) ∈ l) : mget l a = some v := by
  induction l with
  | nil => cases h
  | cons p l ih =>
    rw [mget_cons]
    rw [List.map_cons, List.nodup_cons] at hn
    rcases List.mem_cons.1 h with e | h'
    · subst e; simp
    · have : p.1 ≠ a := fun e => hn.1 (by rw [e]; exact List.mem_map.2 ⟨_, h', rfl⟩)
      rw [if_neg this]; exact ih hn.2 h'
theorem mget_mset {l : List (κ × Value)} {a b : κ} {v : Value} : mget (mset l a v) b = if a = b then some v else mget l b := by
  unfold mset
  cases hg : mget l a with
  | none =>
    simp only
    induction l with
    | nil => simp [mget_cons, mget_nil]
    | cons p l ih =>
      rw [mget_cons] at hg
      split at hg
      · cases hg
      · rename_i hne
        rw [List.cons_append, mget_cons, mget_cons, ih hg]
        by_cases e : a = b
        · subst e; simp [hne]
        · simp [e]
  | some u =>
    simp only
    have key : ∀ l : List (κ × Value), mget (l.map fun p => if p.1 = a then (a, v) else p) b = if a = b then (mget l a).map (fun _ => v) else mget l b := fun l => by
      induction l with
      | nil => simp [mget_nil]
      | cons p l ih =>
        rw [List.map_cons, mget_cons, ih, mget_cons, mget_cons]
        by_cases h1 : p.1 = a
        · by_cases h2 : a = b
          · subst h2; simp [h1]
          · simp [h1, h2]
        · by_cases h2 : a = b
          · subst h2; simp [h1]
          · simp [h1, h2]
    rw [key, hg]; rfl
theorem mget_mdel {l : List (κ × Value)} {a b : κ} : mget (mdel l a) b = if a = b then none else mget l b := by
  induction l with
  | nil => simp [mdel, mget_nil]
  | cons p l ih =>
    unfold mdel at ih ⊢
    rw [List.filter_cons]
    by_cases h : p.1 = a
    · simp only [h, decide_true, Bool.not_true, Bool.false_eq_true, if_false]
      rw [ih, mget_cons]
      by_cases e : a = b
      · simp [e]
      · simp [h, e]
    · simp only [h, decide_false, Bool.not_false, if_true]
      rw [mget_cons, mget_cons, ih]
      by_cases e : a = b
      · subst e; simp [h]
      · simp [e]
theorem mset_keys {l : List (κ × Value)} {a : κ} {v : Value} : (mset l a v).map (·.1) = if (mget l a).isSome then l.map (·.1) else l.map (·.1) ++ [a] := by
  unfold mset
  cases hg : mget l a with
  | none => simp
  | some u =>
    simp only [List.map_map, Option.isSome_some, if_true]
    apply List.map_congr_left
    intro p _
    simp only [Function.comp]
    split
    · rename_i e; exact e.symm
    · rfl
theorem mset_nodup {l : List (κ × Value)} {a : κ} {v : Value} (h : (l.map (·.1)).Nodup) : ((mset l a v).map (·.1)).Nodup := by
  rw [mset_keys]
  cases hg : mget l a with
  | some _ => exact h
  | none =>
    simp only [Option.isSome_none, Bool.false_eq_true, if_false]
    rw [List.nodup_append]
    refine ⟨h, by simp, fun x hx y hy => ?_⟩
    simp only [List.mem_singleton] at hy
    subst hy
    obtain ⟨p, hp, rfl⟩ := List.mem_map.1 hx
    exact mget_none.1 hg p hp
theorem mset_len {l : List (κ × Value)} {a : κ} {v : Value} : (mset l a v).length = if (mget l a).isSome then l.length else l.length + 1 := by
  unfold mset
  cases hg : mget l a <;> simp
theorem mdel_nodup {l : List (κ × Value)} {a : κ} (h : (l.map (·.1)).Nodup) : ((mdel l a).map (·.1)).Nodup := (List.filter_sublist.map _).nodup h
theorem mdel_none {l : List (κ × Value)} {a : κ} (h : mget l a = none) : mdel l a = l := by
  unfold mdel
  rw [List.filter_eq_self]
  intro p hp
  simpa using mget_none.1 h p hp
theorem mem_mset {l : List (κ × Value)} {a : κ} {v : Value} {p : κ × Value} (h : p ∈ mset l a v) : p = (a, v) ∨ p ∈ l ∧ p.1 ≠ a := by
  unfold mset at h
  cases hg : mget l a with
  | none =>
    rw [hg] at h
    simp only [List.mem_append, List.mem_singleton] at h
    rcases h with h | h
    · exact .inr ⟨h, mget_none.1 hg p h⟩
    · exact .inl h
  | some u =>
    rw [hg] at h
    simp only [List.mem_map] at h
    obtain ⟨q, hq, e⟩ := h
    split at e
    · exact .inl e.symm
    · subst e; exact .inr ⟨hq, by assumption⟩

/-- A row's entries, in the order in which they came, are the map's. -/
structure Fitm (enc : κ → Value) (es : List MapEntry) (c : Nat) (l : List (κ × Value)) : Prop where
  row : es.map (fun e => (e.key, e.val)) = l.map fun p => (enc p.1, p.2)
  up : (es.map (·.born)).Pairwise (· < ·)
  born : ∀ e ∈ es, e.born < c
  nodup : (l.map (·.1)).Nodup

def MapAt (enc : κ → Value) (H : Hp) (m : Nat) (l : List (κ × Value)) : Prop := ∃ es c, H m = some (mapV es c) ∧ Fitm enc es c l

theorem MapAt.le {enc : κ → Value} {H H' : Hp} {m : Nat} {l : List (κ × Value)} (h : MapAt enc H m l) (hl : Le H H') : MapAt enc H' m l := by
  obtain ⟨es, c, h1, h2⟩ := h
  exact ⟨es, c, hl _ _ h1, h2⟩
theorem MapAt.mod {enc : κ → Value} {H H' : Hp} {m : Nat} {l : List (κ × Value)} {O : List Nat} (h : MapAt enc H m l) (hl : Mod O H H') (hm : m ∉ O) : MapAt enc H' m l := by
  obtain ⟨es, c, h1, h2⟩ := h
  exact ⟨es, c, hl _ hm _ h1, h2⟩
theorem MapAt.nodup {enc : κ → Value} {H : Hp} {m : Nat} {l : List (κ × Value)} (h : MapAt enc H m l) : (l.map (·.1)).Nodup := by
  obtain ⟨es, c, h1, h2⟩ := h; exact h2.nodup
theorem MapAt.some {enc : κ → Value} {H : Hp} {m : Nat} {l : List (κ × Value)} (h : MapAt enc H m l) : H m ≠ none := by
  obtain ⟨es, c, h1, h2⟩ := h; rw [h1]; simp

theorem Fitm.len {enc : κ → Value} {es : List MapEntry} {c : Nat} {l : List (κ × Value)} (h : Fitm enc es c l) : es.length = l.length := by
  have := congrArg List.length h.row
  simpa using this
theorem Fitm.at {enc : κ → Value} {es : List MapEntry} {c : Nat} {l : List (κ × Value)} (h : Fitm enc es c l) (j : Nat) : (es[j]?).map (fun e => (e.key, e.val)) = (l[j]?).map fun p => (enc p.1, p.2) := by
  rw [← List.getElem?_map, h.row, List.getElem?_map]
theorem Fitm.keys {enc : κ → Value} {es : List MapEntry} {c : Nat} {l : List (κ × Value)} (h : Fitm enc es c l) : ∀ e ∈ es, ∃ b, e.key = enc b := fun e he => by
  obtain ⟨j, hj⟩ := List.getElem?_of_mem he
  have := h.at j
  rw [hj] at this
  cases hl : l[j]? with
  | none => rw [hl] at this; cases this
  | some p => rw [hl] at this; simp only [Option.map_some, Option.some.injEq, Prod.mk.injEq] at this; exact ⟨_, this.1⟩

theorem at_mget {l : List (κ × Value)} (hn : (l.map (·.1)).Nodup) {j : Nat} {p : κ × Value} (h : l[j]? = some p) : mget l p.1 = some p.2 := mget_of hn (List.mem_of_getElem? h)
theorem nodup_at {l : List (κ × Value)} (hn : (l.map (·.1)).Nodup) {i j : Nat} {p q : κ × Value} (hi : l[i]? = some p) (hj : l[j]? = some q) (e : p.1 = q.1) : i = j := by
  have h1 : (l.map (·.1))[i]? = some p.1 := by rw [List.getElem?_map, hi]; rfl
  have h2 : (l.map (·.1))[j]? = some q.1 := by rw [List.getElem?_map, hj]; rfl
  have l1 := (List.getElem?_eq_some_iff.1 h1).1
  exact (List.getElem?_inj l1 hn).1 (by rw [h1, h2, e])

/-- The find of the key, as the row has it. -/
theorem Fitm.find {P : Program} {kt : TypeId} {enc : κ → Value} (K : KyOk P kt enc) {es : List MapEntry} {c : Nat} {l : List (κ × Value)} (h : Fitm enc es c l) (w : World) (a : κ) :
    ((Instr.findKey kt (enc a) es).run P w = .ok none w ∧ mget l a = none) ∨ ∃ (j : Nat) (e : MapEntry) (v : Value), (Instr.findKey kt (enc a) es).run P w = .ok (some (j, v)) w ∧ es[j]? = some e ∧ e.key = enc a ∧ e.val = v ∧ l[j]? = some (a, v) ∧ mget l a = some v := by
  rcases K.find w a es h.keys with ⟨h1, h2⟩ | ⟨j, e, h1, h2, h3⟩
  · refine .inl ⟨h1, mget_none.2 fun p hp e => ?_⟩
    obtain ⟨j, hj⟩ := List.getElem?_of_mem hp
    have := h.at j
    rw [hj] at this
    cases he : es[j]? with
    | none => rw [he] at this; cases this
    | some x =>
      rw [he] at this
      simp only [Option.map_some, Option.some.injEq, Prod.mk.injEq] at this
      exact h2 x (List.mem_of_getElem? he) (by rw [this.1, e])
  · have := h.at j
    rw [h2] at this
    cases hl : l[j]? with
    | none => rw [hl] at this; cases this
    | some p =>
      rw [hl] at this
      simp only [Option.map_some, Option.some.injEq, Prod.mk.injEq] at this
      obtain ⟨p1, p2⟩ := p
      have e1 : p1 = a := K.inj _ _ (by rw [← this.1, h3])
      subst e1
      simp only at this
      exact .inr ⟨j, e, p2, by rw [h1, this.2], h2, h3, this.2, hl, at_mget h.nodup hl⟩

theorem Fitm.set {enc : κ → Value} {es : List MapEntry} {c : Nat} {l : List (κ × Value)} (h : Fitm enc es c l) {j : Nat} {e : MapEntry} {a : κ} {u v : Value} (hj : es[j]? = some e) (hl : l[j]? = some (a, u)) :
    Fitm enc (es.set j { e with key := enc a, val := v }) c (mset l a v) where
  row := by
    have hm := at_mget h.nodup hl
    apply List.ext_getElem?
    intro i
    unfold mset
    rw [hm]
    simp only [List.getElem?_map]
    rw [List.getElem?_set]
    by_cases hi : j = i
    · subst hi
      have hlt : j < es.length := (List.getElem?_eq_some_iff.1 hj).1
      simp [hl, hlt]
    · rw [if_neg hi, h.at i]
      cases hli : l[i]? with
      | none => rfl
      | some p =>
        simp only [Option.map_some]
        have : p.1 ≠ a := fun e => hi (nodup_at h.nodup hl hli (by rw [e]))
        rw [if_neg this]
  up := by
    have : (es.set j { e with key := enc a, val := v }).map (·.born) = es.map (·.born) := by
      apply List.ext_getElem?
      intro i
      simp only [List.getElem?_map]
      rw [List.getElem?_set]
      by_cases hi : j = i
      · subst hi
        obtain ⟨hlt, he⟩ := List.getElem?_eq_some_iff.1 hj
        simp [hlt, he]
      · rw [if_neg hi]
    rw [this]; exact h.up
  born := fun x hx => by
    rcases List.mem_or_eq_of_mem_set hx with hx | rfl
    · exact h.born x hx
    · exact h.born e (List.mem_of_getElem? hj)
  nodup := mset_nodup h.nodup

theorem Fitm.push {enc : κ → Value} {es : List MapEntry} {c : Nat} {l : List (κ × Value)} (h : Fitm enc es c l) {a : κ} {v : Value} (hg : mget l a = none) :
    Fitm enc (es ++ [{ key := enc a, val := v, born := c }]) (c + 1) (mset l a v) where
  row := by unfold mset; rw [hg]; simp [h.row]
  up := by
    simp only [List.map_append, List.map_cons, List.map_nil]
    rw [List.pairwise_append]
    refine ⟨h.up, by simp, fun x hx y hy => ?_⟩
    simp only [List.mem_singleton] at hy
    subst hy
    obtain ⟨e, he, rfl⟩ := List.mem_map.1 hx
    exact h.born e he
  born := fun x hx => by
    simp only [List.mem_append, List.mem_singleton] at hx
    rcases hx with hx | rfl
    · exact Nat.lt_succ_of_lt (h.born x hx)
    · exact Nat.lt_succ_self _
  nodup := mset_nodup h.nodup

theorem erase_filter {l : List (κ × Value)} : (l.map (·.1)).Nodup → ∀ {j : Nat} {p : κ × Value}, l[j]? = some p → l.eraseIdx j = mdel l p.1 := by
  induction l with
  | nil => intro _ j p hl; simp at hl
  | cons q l ih =>
    intro hn j p hl
    rw [List.map_cons, List.nodup_cons] at hn
    cases j with
    | zero =>
      simp at hl
      subst hl
      simp only [List.eraseIdx_cons_zero, mdel, List.filter_cons, decide_true, Bool.not_true, Bool.false_eq_true, if_false]
      symm
      rw [List.filter_eq_self]
      intro x hx
      have : x.1 ≠ q.1 := fun e => hn.1 (by rw [← e]; exact List.mem_map.2 ⟨x, hx, rfl⟩)
      simpa using this
    | succ j =>
      simp only [List.getElem?_cons_succ] at hl
      have : q.1 ≠ p.1 := fun e => hn.1 (by rw [e]; exact List.mem_map.2 ⟨p, List.mem_of_getElem? hl, rfl⟩)
      simp only [List.eraseIdx_cons_succ, mdel, List.filter_cons, this, decide_false, Bool.not_false, if_true]
      rw [ih hn.2 hl]; rfl

theorem Fitm.del {enc : κ → Value} {es : List MapEntry} {c : Nat} {l : List (κ × Value)} (h : Fitm enc es c l) {j : Nat} {a : κ} {u : Value} (hl : l[j]? = some (a, u)) :
    Fitm enc (es.eraseIdx j) c (mdel l a) where
  row := by
    rw [← erase_filter h.nodup hl]
    have key : ∀ {α β : Type} (f : α → β) (l : List α) (j : Nat), (l.eraseIdx j).map f = (l.map f).eraseIdx j := fun f l => by
      induction l with
      | nil => intro j; rfl
      | cons x l ih => intro j; cases j <;> simp [ih]
    rw [key, h.row, key]
  up := List.Pairwise.sublist ((List.eraseIdx_sublist _ _).map _) h.up
  born := fun x hx => h.born x ((List.eraseIdx_sublist _ _).subset hx)
  nodup := mdel_nodup h.nodup

/-! ### The steps -/
section
variable [Sp] {P : Program} {t kt vt : TypeId} {enc : κ → Value} {H : Hp} {m : Nat} {l : List (κ × Value)} {a : κ}

theorem mapAt_new : MapAt enc (upd H m (mapV [] 0)) m [] := ⟨[], 0, by simp [upd], ⟨rfl, by simp, by simp, by simp⟩⟩

theorem lkp_run (K : KyOk P kt enc) (ht : P.underlying t = some (.map kt vt)) {z : Value} (hz : ∀ w, (zeroValue vt).run P w = .ok z w) (h : MapAt enc H m l) (ok : Bool) (w : World) (hw : hp w = H) :
    (Instr.lookup t (.map (some m)) (enc a) ok).run P w = .ok (if ok then .tuple #[(mget l a).getD z, .bool (mget l a).isSome] else (mget l a).getD z) w := by
  obtain ⟨es, c, h1, h2⟩ := h
  subst hw
  have hm := map_view h1
  rcases h2.find K w a with ⟨h3, h4⟩ | ⟨j, e, v, h3, _, _, _, _, h4⟩
  · cases ok <;> simp [Instr.lookup, run_underlying ht, MapKept.run_getObj_map hm, K.check w _ a, h3, hz w, h4, Result.andThen]
  · cases ok <;> simp [Instr.lookup, run_underlying ht, MapKept.run_getObj_map hm, K.check w _ a, h3, h4, Result.andThen]

theorem lkp_ok (K : KyOk P kt enc) (ht : P.underlying t = some (.map kt vt)) {z : Value} (hz : ∀ w, (zeroValue vt).run P w = .ok z w) (h : MapAt enc H m l) {F : Value → Prop}
    (hF : F (.tuple ⟨[(mget l a).getD z, .bool (mget l a).isSome]⟩)) : LKP P t (some m) (enc a) true H F := fun w hw => ⟨_, lkp_run K ht hz h true w hw, hF⟩
theorem lkp_v (K : KyOk P kt enc) (ht : P.underlying t = some (.map kt vt)) {z : Value} (hz : ∀ w, (zeroValue vt).run P w = .ok z w) (h : MapAt enc H m l) {F : Value → Prop}
    (hF : F ((mget l a).getD z)) : LKP P t (some m) (enc a) false H F := fun w hw => ⟨_, lkp_run K ht hz h false w hw, hF⟩

theorem mod_upd {H : Hp} {m : Nat} {c : List Value} : Mod [m] H (upd H m c) := fun b hb d e => by
  unfold upd
  split
  · subst_vars; simp at hb
  · exact e

theorem mup (K : KyOk P kt enc) (ht : P.underlying t = some (.map kt vt)) (h : MapAt enc H m l) {v : Value} {F : Hp → Prop}
    (hF : ∀ H', MapAt enc H' m (mset l a v) → Mod [m] H H' → (∀ b, b ≠ m → H' b = H b) → F H') : MUP P t (some m) (enc a) v H F := fun w hw => by
  obtain ⟨es, c, h1, h2⟩ := h
  subst hw
  have hm := map_view h1
  have key : ∀ (es' : List MapEntry) (c' : Nat), Fitm enc es' c' (mset l a v) → ((Instr.mapUpdate t (.map (some m)) (enc a) v).run P w = .ok () { w with heap := w.heap.setIfInBounds m (.map ⟨es'⟩ c') }) →
      ∃ w', (Instr.mapUpdate t (.map (some m)) (enc a) v).run P w = .ok () w' ∧ Ge 0 w w' ∧ F (hp w') := fun es' c' hf hr => by
    obtain ⟨w', e, h5, h6⟩ := put_view (o' := .map ⟨es'⟩ c') hm rfl rfl rfl
    rw [← e] at hr
    refine ⟨w', hr, h6, ?_⟩
    rw [h5]
    exact hF _ ⟨es', c', by simp [upd], hf⟩ mod_upd (fun b hb => by simp [upd, hb])
  rcases h2.find K w a with ⟨h3, h4⟩ | ⟨j, e, u, h3, h5, h6, _, h7, h4⟩
  · refine key _ _ (h2.push h4) ?_
    simp [Instr.mapUpdate, run_underlying ht, MapKept.run_getObj_map hm, K.check w _ a, h3, MapKept.run_setObj_map _ hm, Result.andThen]
  · refine key _ _ (h2.set h5 h7) ?_
    have hmod : (⟨es⟩ : Array MapEntry).modify j (fun x => { x with key := enc a, val := v }) = ⟨es.set j { e with key := enc a, val := v }⟩ := by
      apply Array.ext'
      apply List.ext_getElem?
      intro i
      rw [Array.getElem?_toList, Array.getElem?_modify]
      simp only [List.getElem?_toArray]
      rw [List.getElem?_set]
      by_cases hi : j = i
      · subst hi
        obtain ⟨hlt, he⟩ := List.getElem?_eq_some_iff.1 h5
        simp [hlt, he]
      · simp [hi]
    have he : ((⟨es⟩ : Array MapEntry)[j]?.map (·.key)).getD (enc a) = enc a := by simp [h5, h6]
    simp only [Instr.mapUpdate, Sem.run_bind, run_underlying ht, Result.andThen, MapKept.run_getObj_map hm, K.check w _ a, h3, he, K.stays w a, hmod]
    exact MapKept.run_setObj_map _ hm

end
/-- All cells that can be read stay. -/
def Lr (H H' : Hp) : Prop := ∀ b o v, rd H b o = some v → rd H' b o = some v
theorem Lr.refl {H : Hp} : Lr H H := fun _ _ _ e => e
theorem Lr.trans {A B C : Hp} (h : Lr A B) (h' : Lr B C) : Lr A C := fun b o v e => h' b o v (h b o v e)
theorem Le.lr {H H' : Hp} (h : Le H H') : Lr H H' := fun _ _ _ e => h.rd e
theorem MapAt.no [Sp] {enc : κ → Value} {H : Hp} {m : Nat} {l : List (κ × Value)} (h : MapAt enc H m l) (o : Nat) : rd H m o = Option.none := by
  obtain ⟨es, c, h1, _⟩ := h
  unfold rd
  rw [h1]; exact rd_mapped
theorem MapAt.lr [Sp] {enc : κ → Value} {H H' : Hp} {m : Nat} {l : List (κ × Value)} (h : MapAt enc H m l) (hm : Mod [m] H H') : Lr H H' := fun b o v e => hm.rd (fun hb => by simp at hb; subst hb; rw [h.no] at e; cases e) e
theorem MapAt.ne [Sp] {enc : κ → Value} {H : Hp} {m b o : Nat} {l : List (κ × Value)} {v : Value} (h : MapAt enc H m l) (e : rd H b o = Option.some v) : b ≠ m := fun hb => by subst hb; rw [h.no] at e; cases e
theorem Sl.lr {α : Type} {f : α → Value} {H H' : Hp} {p : Option Addr} {l c : Nat} {xs : List α} (h : Sl f H p l c xs) (hl : Lr H H') : Sl f H' p l c xs :=
  ⟨h.1, h.2.1, h.2.2.imp id fun ⟨b, o, hp, h⟩ => ⟨b, o, hp, fun i hi => hl _ _ _ (h i hi)⟩⟩
theorem Sn.lr {α : Type} {n : Nat} {f : α → List Value} {H H' : Hp} {p : Option Addr} {l c : Nat} {xs : List α} (h : Sn n f H p l c xs) (hl : Lr H H') : Sn n f H' p l c xs :=
  ⟨h.1, h.2.1, h.2.2.imp id fun ⟨b, o, e, h⟩ => ⟨b, o, e, fun i hi j v ev => hl _ _ _ (h i hi j v ev)⟩⟩
theorem zero_st [Sp] {P : Program} {t : TypeId} {e : TE} {fs : List (Nat × TypeId)} (h : TSpec P t e) (hd : e.d = .st fs) (w : World) : (zeroValue t).run P w = .ok (.agg ⟨e.zc⟩) w := by
  obtain ⟨_, _, i, d, hi, _, _, _, hh⟩ := h
  rw [hd] at hh
  simp [zeroValue, run_typeInfo hi, hh.1]
theorem zero_sc [Sp] {P : Program} {t : TypeId} {e : TE} {v : Value} (h : TSpec P t e) (hd : e.d = .sc) (hz : e.zc = [v]) (w : World) : (zeroValue t).run P w = .ok v w := by
  obtain ⟨_, _, i, d, hi, _, _, _, hh⟩ := h
  rw [hd] at hh
  obtain ⟨_, s, z, _, _, h1, h2, _⟩ := hh
  rw [hz] at h1
  simp only [List.cons.injEq, and_true] at h1
  subst h1
  simp [zeroValue, run_typeInfo hi, h2]
theorem zero_sl [Sp] {P : Program} {t el : TypeId} {e : TE} (h : TSpec P t e) (hd : e.d = .sl el) (w : World) : (zeroValue t).run P w = .ok (.slice Option.none 0 0) w := by
  obtain ⟨_, _, i, d, hi, _, _, _, hh⟩ := h
  rw [hd] at hh
  simp [zeroValue, run_typeInfo hi, hh.2.2.2.2]
end
end Go.V
namespace Go.V
open Go
section
variable {n : Nat} {A H H' : Hp} {m : Nat} {S : List Nat} {cells new : List Value}
/-- Variable m holds a row of memory that wasn't there in A; S: what is written when it grows. -/
def Acc (n : Nat) (A H : Hp) (m : Nat) (S : List Nat) (cells : List Value) : Prop :=
  Le A H ∧ A m = none ∧ ∃ p l c, S = m :: blkL p ∧ rd H m 0 = some (.slice p l c) ∧ Buf n A H p l c cells ∧ Apart p (some ⟨m, 0, none⟩)
theorem Acc.start (hA : A m = none) (hle : Le A H) (hr : rd H m 0 = some (.slice none 0 0)) : Acc n A H m [m] [] := ⟨hle, hA, none, 0, 0, rfl, hr, Buf.none, Apart.none⟩
theorem Acc.le (h : Acc n A H m S cells) (hl : Le H H') : Acc n A H' m S cells := by
  obtain ⟨h1, h2, p, l, c, rfl, h3, h4, h5⟩ := h
  exact ⟨h1.trans hl, h2, p, l, c, rfl, hl.rd h3, h4.le hl, h5⟩
theorem Acc.there (h : Acc n A H m S cells) : ∀ x ∈ S, H x ≠ none := by
  obtain ⟨h1, h2, p, l, c, rfl, h3, h4, h5⟩ := h
  intro x hx
  rcases List.mem_cons.1 hx with rfl | hx
  · exact ne_none_of_rd h3
  · exact h4.there (blkL_mem h4.zero hx)
theorem Acc.fr (h : Acc n A H m S cells) : ∀ x ∈ S, A x = none := by
  obtain ⟨h1, h2, p, l, c, rfl, h3, h4, h5⟩ := h
  intro x hx
  rcases List.mem_cons.1 hx with rfl | hx
  · exact h2
  · exact h4.fr x 0 (blkL_mem h4.zero hx)
theorem Acc.get (h : Acc n A H m S cells) : ∃ p l c, rd H m 0 = some (.slice p l c) ∧ l * n = cells.length ∧ Buf n A H p l c cells ∧ ∀ {te : TE} {new : List Value} (_ : te.size = n) (_ : 0 < n) (_ : te.zc.length = n) (_ : 0 < te.bytes) (_ : new.length = n) (_ : new.all isCell = true) (_ : (cells.length + n) * te.bytes ≤ 140737488355328)
    {F : Hp → Prop} (_ : ∀ S' H', Acc n A H' m S' (cells ++ new) → Mod S H H' → (∀ x ∈ S', x ∈ S ∨ H x = none) → F H') (_ : te.zc.all isCell = true := by rfl) (_ : te.tl = [] := by rfl),
    ∀ b, H b = none → rd (upd H b new) m 0 = some (.slice p l c) ∧ APP (upd H b new) te p l c (.slice (some ⟨b, 0, none⟩) 1 1) fun p' l' c' H2 => ST H2 m 0 (.slice p' l' c') F := by
  obtain ⟨h1, h2, p, l, c, rfl, h3, h4, h5⟩ := h
  refine ⟨p, l, c, h3, h4.1, h4, fun {te new} hs hpos hz hbp hnl hcell hfit {F} hF hzc htl b hb => ⟨(Le.upd hb).rd h3, ?_⟩⟩
  have hmb : m ∉ blkL p := fun h => h5 m 0 0 (blkL_mem h4.zero h) rfl
  have hl1 : l + 1 ≤ cells.length + n := by
    rw [← h4.1]
    have : l * 1 ≤ l * n := Nat.mul_le_mul_left _ hpos
    omega
  refine (h4.pushM (te := te) (new := new) hs hpos hz hbp hnl hcell (Nat.le_trans (Nat.mul_le_mul_right _ hl1) hfit) (fun p' c' H2 hB2 hp hM => ?_) h1 hzc htl) b hb
  have le2 : Le A H2 := hM.le h1 fun b hb => h4.fr b 0 (blkL_mem h4.zero hb)
  have rd2 := hM.rd hmb h3
  have ap : Apart p' (some ⟨m, 0, none⟩) := by
    rcases hp with rfl | hp
    · exact h5
    · intro b o o' e e'
      simp only [Option.some.injEq, Addr.mk.injEq] at e'
      obtain ⟨rfl, _⟩ := e'
      exact ne_none_of_rd h3 (hp m o e)
  refine st rd2 (hF (m :: blkL p') _ ⟨le2.wr h2, h2, p', l + 1, c', rfl, rd_wr_self rd2, ?_, ap⟩ ?_ ?_)
  · exact hB2.mod (O := [m]) (Mod.refl.wr (.inl (by simp))) fun b o e hb => by simp at hb; subst hb; exact ap _ _ _ e rfl
  · exact (hM.mono fun x hx => List.mem_cons_of_mem _ hx).wr (.inl (by simp))
  · intro x hx
    rcases List.mem_cons.1 hx with rfl | hx
    · exact .inl (by simp)
    · rcases hp with rfl | hp
      · exact .inl (List.mem_cons_of_mem _ hx)
      · exact .inr (hp x 0 (blkL_mem hB2.zero hx))
theorem Acc.push (h : Acc n A H m S cells) {te : TE} (hs : te.size = n) (hpos : 0 < n) (hz : te.zc.length = n) (hbp : 0 < te.bytes) (hnl : new.length = n) (hcell : new.all isCell = true) (hfit : (cells.length + n) * te.bytes ≤ 140737488355328)
    {F : Hp → Prop} (hF : ∀ S' H', Acc n A H' m S' (cells ++ new) → Mod S H H' → (∀ x ∈ S', x ∈ S ∨ H x = none) → F H') (hzc : te.zc.all isCell = true := by rfl) (htl : te.tl = [] := by rfl) :
    ldL (rd H m 0) fun p l c => NEW H new fun b H1 => APP H1 te p l c (.slice (some ⟨b, 0, none⟩) 1 1) fun p' l' c' H2 => ST H2 m 0 (.slice p' l' c') F := by
  obtain ⟨p, l, c, hr, _, _, hp⟩ := h.get
  exact ldL_i hr fun b hb => (hp hs hpos hz hbp hnl hcell hfit hF hzc htl b hb).2
theorem Acc.end (h : Acc n A H m S cells) {K : Option Addr → Nat → Nat → Prop} (hK : ∀ p l c, Buf n A H p l c cells → K p l c) : ldL (rd H m 0) K := by
  obtain ⟨p, l, c, hr, _, hB, _⟩ := h.get
  exact ldL_i hr (hK p l c hB)
end
section
variable {H : Hp} {q : Nat}
theorem Apart.of_new {s : Nat} {p p' r : Option Addr} {cells : List Value} {l c : Nat} {B : Hp} (h : Apart p r) (hp : p' = p ∨ New H p') (hr : Buf s B H r l c cells) : Apart p' r := by
  rcases hp with rfl | hp
  · exact h
  · exact fun b o o' e e' => hr.there e' (hp b o e)
theorem Apart.of_newQ {p p' : Option Addr} (h : Apart p (Option.some ⟨q, 0, Option.none⟩)) (hp : p' = p ∨ New H p') (hq : H q ≠ Option.none) : Apart p' (Option.some ⟨q, 0, Option.none⟩) := by
  rcases hp with rfl | hp
  · exact h
  · intro b o o' e e'
    simp only [Option.some.injEq, Addr.mk.injEq] at e'
    obtain ⟨rfl, _⟩ := e'
    exact hq (hp q o e)
theorem Apart.not {p : Option Addr} (h : Apart p (Option.some ⟨q, 0, Option.none⟩)) {s : Nat} {B : Hp} {l c : Nat} {cells : List Value} (hB : Buf s B H p l c cells) : q ∉ blkL p := fun hq => h q 0 0 (blkL_mem hB.zero hq) rfl
end
end Go.V
namespace Go.V
set_option linter.unusedSectionVars false
section
variable [Sp] {P : Program}

theorem hp_put {w : World} {m : Nat} {o o' : Obj} {c : List Value} (hm : w.heap[m]? = some o) (ho : objB o' = some c) (hs : (objB o).isSome = true) (ht : tagOf o' = tagOf o) {w1 : World} (h1 : w1 = w ∨ w1 = w.drew) :
    hp { w1 with heap := w1.heap.setIfInBounds m o' } = upd (hp w) m c ∧ Ge 0 w { w1 with heap := w1.heap.setIfInBounds m o' } := by
  rcases h1 with rfl | rfl
  · obtain ⟨w', e, h2, h3⟩ := put_view hm ho hs ht
    subst e; exact ⟨h2, h3⟩
  · obtain ⟨w', e, h2, h3⟩ := put_view (w := w.drew) hm ho hs ht
    subst e; exact ⟨h2, (Ge.drew w).trans h3⟩

theorem run_next_any (w : World) (ty : TypeId) {r bm since c0 : Nat} {seen : Array Nat} {es : Array MapEntry} {clock : Nat} (hr : w.heap[r]? = some (.mapIter (some bm) since seen c0)) (hb : w.heap[bm]? = some (.map es clock)) (hold : ∀ x ∈ es.toList, x.born < since) (hsc : since ≤ c0) :
    ((leftOf es seen).size = 0 ∧ (Instr.next (.pointer (some ⟨r, 0, none⟩)) false ty).run P w = .ok (.tuple #[.bool false]) w) ∨
    ∃ (j : Nat) (h : j < (leftOf es seen).size) (w1 : World), (w1 = w ∨ w1 = w.drew) ∧ (Instr.next (.pointer (some ⟨r, 0, none⟩)) false ty).run P w = .ok (.tuple #[.bool true, (leftOf es seen)[j].key, (leftOf es seen)[j].val]) { w1 with heap := w1.heap.setIfInBounds r (.mapIter (some bm) since (seen.push (leftOf es seen)[j].born) clock) } := by
  simp only [Instr.next, getObj, Sem.run_bind, Sem.run, hr, hb, Result.andThen, next_test_false seen es since c0 hold hsc, Bool.false_eq_true, if_false]
  unfold leftOf
  have hmem : ∀ x ∈ (Array.filter (fun e => !seen.contains e.born) es).toList, x.born < since := fun x hx => hold x (by simp at hx ⊢; exact hx.1)
  generalize Array.filter (fun e => !seen.contains e.born) es = L at hmem ⊢
  have e1 : L.filter (fun x => decide (x.born < since)) = L := Array.filter_eq_self.2 (fun x hx => by simpa using hmem x (by simpa using hx))
  have e2 : L.filter (fun x => decide (x.born ≥ since)) = #[] := by
    rw [Array.filter_eq_empty_iff]
    intro x hx
    have := hmem x (by simpa using hx)
    simp
    omega
  simp only [e1, e2, Array.append_empty]
  by_cases h0 : L.size = 0
  · left
    have : L = #[] := Array.eq_empty_of_size_eq_zero h0
    subst this
    refine ⟨rfl, ?_⟩
    simp [choose, Sem.run, Question.forced]
  · right
    have hne : L.isEmpty = false := by simp [Array.isEmpty, h0]
    simp only [hne, Bool.false_eq_true, if_false, Array.empty_append, Array.size_map]
    have hch : ∃ (j : Nat) (w1 : World), j < L.size ∧ (w1 = w ∨ w1 = w.drew) ∧ (choose (Question.mapNext L.size)).run P w = .ok j w1 := by
      by_cases hf : L.size ≤ 1
      · exact ⟨0, w, by omega, .inl rfl, by simp [choose, Sem.run, Question.forced, hf]⟩
      · exact ⟨_, w.drew, Nat.mod_lt _ (by omega), .inr rfl, by
          simp only [choose, Sem.run, Question.forced, decide_eq_true_eq, hf, if_false, Question.cut]
          rfl⟩
    obtain ⟨j, w1, hj, hw, hrun⟩ := hch
    refine ⟨j, hj, w1, hw, ?_⟩
    have hr1 : w1.heap[r]? = some (.mapIter (some bm) since seen c0) := by rcases hw with rfl | rfl <;> exact hr
    simp only [hrun, Array.getElem?_map, Array.getElem?_eq_getElem hj, Option.map_some, Sem.run_bind, Result.andThen]
    simp [setObj, Sem.run, hr1]

variable {κ : Type} [DecidableEq κ] {enc : κ → Value} {H H' : Hp} {r m : Nat} {l rest : List (κ × Value)}

/-- An iterator over a map: what it hasn't told yet. -/
def IterAt (enc : κ → Value) (H : Hp) (r m : Nat) (rest : List (κ × Value)) : Prop := ∃ es c since seen last l, H m = some (mapV es c) ∧ Fitm enc es c l ∧ H r = some (iterV (some m) since seen last) ∧ (∀ e ∈ es, e.born < since) ∧ since ≤ last ∧ since ≤ c ∧
  (es.filter fun e => !seen.contains e.born).map (fun e => (e.key, e.val)) = rest.map fun p => (enc p.1, p.2)
/-- How far it has come. -/
def itN (H : Hp) (r : Nat) : Nat := ((H r).getD []).length
/-- What it told last. -/
def Last (H : Hp) (r m : Nat) (k v : Value) : Prop := ∃ es c since seen e, H m = some (mapV es c) ∧ H r = some (iterV (some m) since (seen ++ [e.born]) c) ∧ (es.map (·.born)).Nodup ∧ e ∈ es ∧ e.key = k ∧ e.val = v

theorem IterAt.le (h : IterAt enc H r m rest) (hl : Le H H') : IterAt enc H' r m rest := by
  obtain ⟨es, c, since, seen, last, l, h1, h2, h3, h4⟩ := h
  exact ⟨es, c, since, seen, last, l, hl _ _ h1, h2, hl _ _ h3, h4⟩
theorem IterAt.mod {O : List Nat} (h : IterAt enc H r m rest) (hl : Mod O H H') (h1 : r ∉ O) (h2 : m ∉ O) : IterAt enc H' r m rest := by
  obtain ⟨es, c, since, seen, last, l, h3, h4, h5, h6⟩ := h
  exact ⟨es, c, since, seen, last, l, hl _ h2 _ h3, h4, hl _ h1 _ h5, h6⟩

theorem rng {t kt vt : TypeId} (ht : P.underlying t = some (.map kt vt)) (h : MapAt enc H m l) {F : Nat → Hp → Prop}
    (hF : ∀ r H', H r = none → Le H H' → IterAt enc H' r m l → itN H' r = 1 → F r H') : RNG P t (some m) H F := fun w hw => by
  obtain ⟨es, c, h1, h2⟩ := h
  subst hw
  have hm := map_view h1
  refine ⟨w.heap.size, w.alloc (.mapIter (some m) c #[] c), run_range_map w t kt vt m ⟨es⟩ c ht hm, Ge.alloc _ _, ?_⟩
  have e : hp (w.alloc (.mapIter (some m) c #[] c)) = upd (hp w) w.heap.size (iterV (some m) c [] c) := by
    funext x
    simp only [upd, hp, World.alloc]
    by_cases hx : x = w.heap.size
    · subst hx; simp [objB]
    · simp only [if_neg hx]
      rw [Array.getElem?_push]
      simp [hx]
  rw [e]
  have hl : Le (hp w) (upd (hp w) w.heap.size (iterV (some m) c [] c)) := Le.upd hp_fresh
  refine hF _ _ hp_fresh hl ⟨es, c, c, [], c, l, hl _ _ h1, h2, by simp [upd], h2.born, Nat.le_refl _, Nat.le_refl _, ?_⟩ ?_
  · have : (es.filter fun e => !([] : List Nat).contains e.born) = es := List.filter_eq_self.2 (fun x _ => by simp)
    rw [this, h2.row]
  · simp [itN, upd, iterV]

theorem erase_born : ∀ {L : List MapEntry} {j : Nat} {e : MapEntry}, (L.map (·.born)).Nodup → L[j]? = some e → (L.filter fun x => !decide (x.born = e.born)) = L.eraseIdx j
  | [], j, e, _, h => by simp at h
  | x :: L, j, e, hn', hje => by
    rw [List.map_cons, List.nodup_cons] at hn'
    cases j with
    | zero =>
      simp at hje
      subst hje
      simp only [List.filter_cons, decide_true, Bool.not_true, Bool.false_eq_true, if_false, List.eraseIdx_cons_zero]
      rw [List.filter_eq_self]
      intro y hy
      have : y.born ≠ x.born := fun e => hn'.1 (by rw [← e]; exact List.mem_map.2 ⟨y, hy, rfl⟩)
      simpa using this
    | succ j =>
      simp only [List.getElem?_cons_succ] at hje
      have : x.born ≠ e.born := fun e' => hn'.1 (by rw [e']; exact List.mem_map.2 ⟨e, List.mem_of_getElem? hje, rfl⟩)
      simp only [List.filter_cons, this, decide_false, Bool.not_false, if_true, List.eraseIdx_cons_succ]
      rw [erase_born hn'.2 hje]

theorem nxt {ty : TypeId} (h : IterAt enc H r m rest) {F : Hp → Prop} {G : List Value → Hp → Prop} (hF : rest = [] → F H)
    (hG : ∀ (i : Nat) (hi : i < rest.length) rs H', IterAt enc H' r m (rest.eraseIdx i) → Last H' r m (enc rest[i].1) rest[i].2 → Mod [r] H H' → (∀ b, b ≠ r → H' b = H b) → itN H' r = itN H r + 1 → G rs H') : NXT P r ty H F G := fun w hw => by
  obtain ⟨es, c, since, seen, last, l, h1, h2, h3, h4, h5, h5c, h6⟩ := h
  subst hw
  have hm := map_view h1
  have hr := iter_view h3
  have hne : m ≠ r := fun e => by subst e; rw [h1] at h3; exact mapV_ne_iterV (Option.some.inj h3)
  have hL : (leftOf ⟨es⟩ ⟨seen⟩).toList = es.filter fun e => !seen.contains e.born := by simp [leftOf]
  have hlen : (leftOf ⟨es⟩ ⟨seen⟩).size = rest.length := by
    have := congrArg List.length h6
    rw [← hL] at this
    simpa using this
  rcases run_next_any (P := P) w ty hr hm h4 h5 with ⟨h7, h8⟩ | ⟨j, hj, w1, hw1, h8⟩
  · exact ⟨w, Ge.refl _ _, .inl ⟨h8, hF (List.eq_nil_of_length_eq_zero (by rw [← hlen]; exact h7))⟩⟩
  · have hj' : j < rest.length := by rw [← hlen]; exact hj
    generalize he : (leftOf ⟨es⟩ ⟨seen⟩)[j] = e at h8
    have hje : (es.filter fun e => !seen.contains e.born)[j]? = some e := by rw [← hL, Array.getElem?_toList, Array.getElem?_eq_getElem hj, he]
    have hmem : e ∈ es ∧ seen.contains e.born = false := by
      have := List.mem_of_getElem? hje
      simpa using this
    have hkv : e.key = enc rest[j].1 ∧ e.val = rest[j].2 := by
      have := congrArg (fun l => l[j]?) h6
      simp only [List.getElem?_map] at this
      rw [hje, List.getElem?_eq_getElem hj'] at this
      simpa using this
    have hn : (es.map (·.born)).Nodup := h2.up.imp (fun h => Nat.ne_of_lt h)
    obtain ⟨e1, e2⟩ := hp_put (o' := .mapIter (some m) since (Array.push ⟨seen⟩ e.born) c) hr rfl rfl rfl hw1
    refine ⟨_, e2, .inr ⟨_, h8, ?_⟩⟩
    rw [e1]
    have hmm : upd (hp w) r (iterV (some m) since (Array.push ⟨seen⟩ e.born).toList c) m = some (mapV es c) := by simp [upd, hne, h1]
    have hrr : upd (hp w) r (iterV (some m) since (Array.push ⟨seen⟩ e.born).toList c) r = some (iterV (some m) since (seen ++ [e.born]) c) := by simp [upd]
    refine hG j hj' _ _ ⟨es, c, since, seen ++ [e.born], c, l, hmm, h2, hrr, h4, h5c, h5c, ?_⟩ ⟨es, c, since, seen, e, hmm, hrr, hn, hmem.1, hkv⟩ mod_upd (fun b hb => by simp [upd, hb]) (by unfold itN; rw [hrr, h3]; simp [iterV])
    · have key : (es.filter fun x => !(seen ++ [e.born]).contains x.born) = (es.filter fun x => !seen.contains x.born).eraseIdx j := by
        have : (es.filter fun x => !(seen ++ [e.born]).contains x.born) = (es.filter fun x => !seen.contains x.born).filter fun x => !decide (x.born = e.born) := by
          rw [List.filter_filter]
          apply List.filter_congr
          intro x _
          simp only [List.contains_eq_mem, List.mem_append, List.mem_singleton]
          by_cases h9 : x.born ∈ seen <;> by_cases h10 : x.born = e.born <;> simp [h9, h10]
        rw [this]
        have hn' : ((es.filter fun x => !seen.contains x.born).map (·.born)).Nodup := (List.filter_sublist.map _).nodup hn
        exact erase_born hn' hje
      have kk : ∀ {α β : Type} (f : α → β) (l : List α) (j : Nat), (l.eraseIdx j).map f = (l.map f).eraseIdx j := fun f l => by
        induction l with
        | nil => intro j; rfl
        | cons x l ih => intro j; cases j <;> simp [ih]
      rw [key, kk, h6, kk]

theorem ent {k v : Value} (h : Last H r m k v) {F : Value → Value → Prop} (hF : F k v) : ENT P r H F := fun w hw => by
  obtain ⟨es, c, since, seen, e, h1, h2, h3, h4, rfl, rfl⟩ := h
  subst hw
  have hm := map_view h1
  have hr := iter_view h2
  refine ⟨e.key, e.val, ?_, hF⟩
  have hf : (⟨es⟩ : Array MapEntry).find? (·.born == e.born) = some e := by rw [← Array.find?_toList]; exact find_born e es h3 h4
  simp [Instr.entry, getObj, Sem.run, hr, hm, Result.andThen, hf]

theorem mlen {t kt vt ty : TypeId} (ht : P.underlying t = some (.map kt vt)) (h : MapAt enc H m l) {F : Value → Hp → Prop} (hF : F (.int .i64 (l.length : Nat)) H) : BLT P .len [t] ty [.map (some m)] H F := fun w hw => by
  obtain ⟨es, c, h1, h2⟩ := h
  subst hw
  have hm := map_view h1
  refine ⟨.int .i64 (l.length : Nat), w, fun cs => ?_, Ge.refl _ _, hF⟩
  simp only [builtin, Sem.run_bind]
  simp [Builtin.len_, run_underlying ht, MapKept.run_getObj_map hm, Result.andThen, goInt, h2.len]

theorem mdelete {t u kt vt ty : TypeId} {a : κ} (K : KyOk P kt enc) (ht : P.underlying t = some (.map kt vt)) (h : MapAt enc H m l) {F : Value → Hp → Prop}
    (hF : ∀ H', MapAt enc H' m (mdel l a) → Mod [m] H H' → (∀ b, b ≠ m → H' b = H b) → F (.tuple ⟨[]⟩) H') : BLT P .delete [t, u] ty [.map (some m), enc a] H F := fun w hw => by
  obtain ⟨es, c, h1, h2⟩ := h
  subst hw
  have hm := map_view h1
  have key : ∀ (es' : List MapEntry), Fitm enc es' c (mdel l a) → ((Builtin.delete_ #[t, u] ty #[.map (some m), enc a]).run P w = .ok (.tuple #[]) { w with heap := w.heap.setIfInBounds m (.map ⟨es'⟩ c) }) →
      ∃ v w', (∀ cs, (builtin .delete ⟨[t, u]⟩ ty cs ⟨[.map (some m), enc a]⟩).run P w = .ok (.value v) w') ∧ Ge 0 w w' ∧ F v (hp w') := fun es' hf hr => by
    obtain ⟨w', e, h5, h6⟩ := put_view (o' := .map ⟨es'⟩ c) hm rfl rfl rfl
    rw [← e] at hr
    refine ⟨.tuple ⟨[]⟩, w', fun cs => ?_, h6, ?_⟩
    · simp only [builtin, Sem.run_bind, hr]; rfl
    · rw [h5]
      exact hF _ ⟨es', c, by simp [upd], hf⟩ mod_upd (fun b hb => by simp [upd, hb])
  rcases h2.find K w a with ⟨h3, h4⟩ | ⟨j, e, u', h3, h5, h6, _, h7, h4⟩
  · refine key es (by rw [mdel_none h4]; exact h2) ?_
    simp [Builtin.delete_, run_underlying ht, MapKept.run_getObj_map hm, K.check w _ a, h3, MapKept.run_setObj_map _ hm, Result.andThen]
  · refine key _ (h2.del h7) ?_
    have hlt := (List.getElem?_eq_some_iff.1 h5).1
    have he : (⟨es⟩ : Array MapEntry).eraseIdxIfInBounds j = ⟨es.eraseIdx j⟩ := by
      apply Array.ext'
      unfold Array.eraseIdxIfInBounds
      simp [hlt]
    have hs := MapKept.run_setObj_map (P := P) (.map ⟨es.eraseIdx j⟩ c) hm
    simp [Builtin.delete_, run_underlying ht, MapKept.run_getObj_map hm, K.check w _ a, h3, Result.andThen]
    rw [show (es.eraseIdx j).toArray = (⟨es.eraseIdx j⟩ : Array MapEntry) from rfl, hs]

theorem mclear {t kt vt ty : TypeId} (ht : P.underlying t = some (.map kt vt)) (h : MapAt enc H m l) {F : Value → Hp → Prop}
    (hF : ∀ H', MapAt enc H' m [] → Mod [m] H H' → (∀ b, b ≠ m → H' b = H b) → F (.tuple ⟨[]⟩) H') : BLT P .clear [t] ty [.map (some m)] H F := fun w hw => by
  obtain ⟨es, c, h1, h2⟩ := h
  subst hw
  have hm := map_view h1
  obtain ⟨w', e, h5, h6⟩ := put_view (o' := .map #[] c) hm rfl rfl rfl
  refine ⟨.tuple ⟨[]⟩, w', fun cs => ?_, h6, ?_⟩
  · subst e
    simp only [builtin, Sem.run_bind]
    simp [Builtin.clear_, run_underlying ht, MapKept.run_getObj_map hm, MapKept.run_setObj_map _ hm, Result.andThen]
  · rw [h5]
    exact hF _ ⟨[], c, by simp [upd], rfl, by simp, by simp, by simp⟩ mod_upd (fun b hb => by simp [upd, hb])

theorem mclone_run {t : TypeId} (h : MapAt enc H m l) {F : Value → Hp → Prop} (hF : ∀ b H', H b = none → Le H H' → MapAt enc H' b l → F (.iface t (.map (some b))) H') (w : World) (hw : hp w = H) :
    ∃ v w', (Extern.MapsClone.clone ⟨[.iface t (.map (some m))]⟩).run P w = .ok v w' ∧ F v (hp w') ∧ Ge 0 w w' := by
  obtain ⟨es, c, h1, h2⟩ := h
  subst hw
  have hm := map_view h1
  have e : hp (w.alloc (.map ⟨es⟩ c)) = upd (hp w) w.heap.size (mapV es c) := by
    funext x
    simp only [upd, hp, World.alloc]
    by_cases hx : x = w.heap.size
    · subst hx; simp [objB]
    · simp only [if_neg hx]
      rw [Array.getElem?_push]
      simp [hx]
  have ec : Extern.MapsClone.clone ⟨[.iface t (.map (some m))]⟩ = (getObj m >>= fun o => match o with | .map entries clock => do pure (.iface t (.map (some (← newObj (.map entries clock))))) | _ => stuck "maps.clone: a map expected") := rfl
  refine ⟨.iface t (.map (some w.heap.size)), w.alloc (.map ⟨es⟩ c), by rw [ec, Sem.run_bind, MapKept.run_getObj_map hm]; simp [Result.andThen], ?_, Ge.alloc _ _⟩
  rw [e]
  exact hF _ _ hp_fresh (Le.upd hp_fresh) ⟨es, c, by simp [upd], h2⟩

end
theorem Acc.mod {n : Nat} {A H H' : Hp} {v : Nat} {T O : List Nat} {cells : List Value} (h : Acc n A H v T cells) (hm : Mod O H H') (hO : ∀ x ∈ O, A x = none) (hT : ∀ x ∈ T, x ∉ O) : Acc n A H' v T cells := by
  obtain ⟨h1, h2, p, l', c, rfl, h3, h4, h5⟩ := h
  exact ⟨hm.le h1 hO, h2, p, l', c, rfl, hm.rd (hT v (by simp)) h3, h4.mod hm fun b o e => hT b (by simp [blkL, e]), h5⟩
theorem Buf.pop {A H : Hp} {p : Option Addr} {l c : Nat} {cells : List Value} (h : Buf 1 A H p l c cells) (hl : 0 < l) : Buf 1 A H (movA p 0 1 c) (l - 1 - 0) (c - 0) cells.dropLast := by
  rcases h.2 with ⟨_, h0, _⟩ | ⟨b, rest, rfl, h2, h3, h4, h5, h6⟩
  · omega
  · have hlen := h.1
    have hne : cells ≠ [] := fun e => by rw [e] at hlen; simp at hlen; omega
    have e : cells ++ rest = cells.dropLast ++ (cells.getLast hne :: rest) := by
      conv => lhs; rw [← List.dropLast_concat_getLast hne]
      simp
    refine ⟨by rw [List.length_dropLast]; omega, .inr ⟨b, cells.getLast hne :: rest, ?_, h2, by rw [h3, e], by rw [List.length_dropLast, List.length_cons]; omega, by omega, by rw [← e]; exact h6⟩⟩
    unfold movA mulS
    simp
theorem MapAt.itN {κ : Type} [DecidableEq κ] {enc : κ → Value} {H : Hp} {m : Nat} {l : List (κ × Value)} (h : MapAt enc H m l) : itN H m = l.length + 1 := by
  obtain ⟨es, c, h1, h2⟩ := h
  unfold Go.V.itN
  rw [h1]
  simp [mapV, h2.len]

theorem Sn.slice [Sp] {α : Type} {n : Nat} {f : α → List Value} {H : Hp} {p : Option Addr} {l c : Nat} {xs : List α} (h : Sn n f H p l c xs) {j k : Nat} (hjk : j ≤ k) (hk : k ≤ xs.length) : Sn n f H (movA p j n c) (k - j) (c - j) ((xs.take k).drop j) := by
  have hlc := h.2.1
  have hl := h.1
  refine ⟨by rw [List.length_drop, List.length_take]; omega, by omega, ?_⟩
  rcases h.2.2 with h0 | ⟨b, o, rfl, hr⟩
  · left; subst h0; simp
  · by_cases hj : j = k
    · left; rw [List.drop_eq_nil_iff, List.length_take]; omega
    · right
      refine ⟨b, o + j * n, ?_, fun i hi i2 v hv => ?_⟩
      · unfold movA
        rw [mulS_eq]
        simp only
        rw [if_neg (by omega)]
      · rw [List.length_drop, List.length_take] at hi
        have e : ((xs.take k).drop j)[i]'(by rw [List.length_drop, List.length_take]; omega) = xs[j + i]'(by omega) := by rw [List.getElem_drop, List.getElem_take]
        rw [e] at hv
        have := hr (j + i) (by omega) i2 v hv
        rw [Nat.add_mul] at this
        rw [← this]; congr 1; omega
end Go.V
namespace Go.Proofs.YtbpbgkpkkklipaaGreat
open Go.V
noncomputable section
@[reducible] noncomputable def prog : Program := Tryz.prog
theorem mix : prog.follows .mixedOrders = true := by kernel_rfl
instance : Sp := ⟨fun t => Nat.beq t 5, fun t => Nat.beq t 56 || Nat.beq t 95⟩
abbrev ty_unit : TypeId := 0
abbrev ty_int : TypeId := 3
abbrev ty_bool : TypeId := 4
abbrev ty_uint8 : TypeId := 5
abbrev ty_string : TypeId := 9
abbrev ty_interface : TypeId := 20
abbrev ty_sl_api_Patch : TypeId := 22
abbrev ty_sl_uint32 : TypeId := 23
abbrev ty_uint32 : TypeId := 24
abbrev ty_p_store_Store : TypeId := 27
abbrev ty_p_centoref17_Store : TypeId := 29
abbrev ty_centoref17_Store : TypeId := 31
abbrev ty_api_Errno : TypeId := 32
abbrev ty_sl_string : TypeId := 34
abbrev ty_sl_api_Hunk : TypeId := 35
abbrev ty_api_Patch : TypeId := 37
abbrev ty_sl_uint32_api_Errno : TypeId := 39
abbrev ty_sl_uint32_int : TypeId := 41
abbrev ty_sl_api_Patch_api_Errno : TypeId := 43
abbrev ty_sl_api_Patch_int : TypeId := 45
abbrev ty_api_Patch_bool : TypeId := 52
abbrev ty_map_uint32_api_Patch : TypeId := 56
abbrev ty_store_Store : TypeId := 58
abbrev ty_iter_Seq_uint32 : TypeId := 62
abbrev ty_funcuint32_bool : TypeId := 70
abbrev ty_funcapi_Hunk_api_Hunk_bool : TypeId := 72
abbrev ty_sl_api_Edge : TypeId := 73
abbrev ty_sl_api_LineID : TypeId := 74
abbrev ty_api_Hunk : TypeId := 76
abbrev ty_funcstring_bool : TypeId := 81
abbrev ty_api_LineID : TypeId := 89
abbrev ty_api_Edge : TypeId := 91
abbrev ty_map_uint32_bool : TypeId := 95
abbrev ty_uint : TypeId := 98
abbrev ty_funcstring_string_int : TypeId := 102
abbrev ty_funcuint32_uint32_int : TypeId := 104
abbrev ty_funcapi_Edge_api_Edge_int : TypeId := 109
abbrev ty_funcapi_LineID_api_LineID_int : TypeId := 111
abbrev ty_slices_sortedHint : TypeId := 118
abbrev ty_int_slices_sortedHint : TypeId := 119
abbrev ty_int_bool : TypeId := 124
abbrev ty_uint64 : TypeId := 128
abbrev ty_slices_xorshift : TypeId := 132
abbrev ty_p_int : TypeId := 136
abbrev ty_sl_int : TypeId := 138
abbrev ty_p_slices_xorshift : TypeId := 140
abbrev ty_int_int : TypeId := 141
def te_unit : TE := ⟨.tup [], 1, 0, [], [], []⟩
theorem te_unit.ok : TSpec prog 0 te_unit := TSpec.tup (i := Tryz.t0) (by kernel_rfl) (by kernel_rfl) (by kernel_rfl) (by kernel_rfl) (by kernel_rfl)
def te_int : TE := ⟨.sc, 1, 8, [.int .i64], [.int .i64 (0 : Int)], []⟩
theorem te_int.ok : TSpec prog 3 te_int := TSpec.sc (i := Tryz.t3) (d := descOf Tryz.t3) (by kernel_rfl) (by kernel_rfl) (by kernel_rfl) (by kernel_rfl) (by kernel_rfl) (by kernel_rfl) (by kernel_rfl) (by kernel_rfl) (by kernel_rfl)
def te_bool : TE := ⟨.sc, 1, 1, [.bool], [.bool false], []⟩
theorem te_bool.ok : TSpec prog 4 te_bool := TSpec.sc (i := Tryz.t4) (d := descOf Tryz.t4) (by kernel_rfl) (by kernel_rfl) (by kernel_rfl) (by kernel_rfl) (by kernel_rfl) (by kernel_rfl) (by kernel_rfl) (by kernel_rfl) (by kernel_rfl)
def te_uint8 : TE := ⟨.sc, 1, 1, [.int .u8], [.int .u8 (0 : Int)], [tyM 5 0 0]⟩
theorem te_uint8.ok : TSpec prog 5 te_uint8 := TSpec.sc (i := Tryz.t5) (d := descOf Tryz.t5) (by kernel_rfl) (by kernel_rfl) (by kernel_rfl) (by kernel_rfl) (by kernel_rfl) (by kernel_rfl) (by kernel_rfl) (by kernel_rfl) (by kernel_rfl)
def te_string : TE := ⟨.sc, 1, 16, [.str], [.string .empty], []⟩
theorem te_string.ok : TSpec prog 9 te_string := TSpec.sc (i := Tryz.t9) (d := descOf Tryz.t9) (by kernel_rfl) (by kernel_rfl) (by kernel_rfl) (by kernel_rfl) (by kernel_rfl) (by kernel_rfl) (by kernel_rfl) (by kernel_rfl) (by kernel_rfl)
def te_interface : TE := ⟨.sc, 1, 16, [.any], [.nilIface], []⟩
theorem te_interface.ok : TSpec prog 20 te_interface := TSpec.sc (i := Tryz.t20) (d := descOf Tryz.t20) (by kernel_rfl) (by kernel_rfl) (by kernel_rfl) (by kernel_rfl) (by kernel_rfl) (by kernel_rfl) (by kernel_rfl) (by kernel_rfl) (by kernel_rfl)
def te_sl_api_Patch : TE := ⟨.sl 37, 1, 24, [.slice], [.slice none 0 0], []⟩
theorem te_sl_api_Patch.ok : TSpec prog 22 te_sl_api_Patch := TSpec.sl (i := Tryz.t22) (by kernel_rfl) (by kernel_rfl) (by kernel_rfl) (by kernel_rfl) (by kernel_rfl) (by kernel_rfl)
def te_sl_uint32 : TE := ⟨.sl 24, 1, 24, [.slice], [.slice none 0 0], []⟩
theorem te_sl_uint32.ok : TSpec prog 23 te_sl_uint32 := TSpec.sl (i := Tryz.t23) (by kernel_rfl) (by kernel_rfl) (by kernel_rfl) (by kernel_rfl) (by kernel_rfl) (by kernel_rfl)
def te_uint32 : TE := ⟨.sc, 1, 4, [.int .u32], [.int .u32 (0 : Int)], []⟩
theorem te_uint32.ok : TSpec prog 24 te_uint32 := TSpec.sc (i := Tryz.t24) (d := descOf Tryz.t24) (by kernel_rfl) (by kernel_rfl) (by kernel_rfl) (by kernel_rfl) (by kernel_rfl) (by kernel_rfl) (by kernel_rfl) (by kernel_rfl) (by kernel_rfl)
def te_p_store_Store : TE := ⟨.sc, 1, 8, [.ptr], [.pointer none], []⟩
theorem te_p_store_Store.ok : TSpec prog 27 te_p_store_Store := TSpec.sc (i := Tryz.t27) (d := descOf Tryz.t27) (by kernel_rfl) (by kernel_rfl) (by kernel_rfl) (by kernel_rfl) (by kernel_rfl) (by kernel_rfl) (by kernel_rfl) (by kernel_rfl) (by kernel_rfl)
def te_p_centoref17_Store : TE := ⟨.sc, 1, 8, [.ptr], [.pointer none], []⟩
theorem te_p_centoref17_Store.ok : TSpec prog 29 te_p_centoref17_Store := TSpec.sc (i := Tryz.t29) (d := descOf Tryz.t29) (by kernel_rfl) (by kernel_rfl) (by kernel_rfl) (by kernel_rfl) (by kernel_rfl) (by kernel_rfl) (by kernel_rfl) (by kernel_rfl) (by kernel_rfl)
def te_centoref17_Store : TE := ⟨.st [(0, 22)], 1, 24, [.slice], [.slice none 0 0], []⟩
theorem te_centoref17_Store.ok : TSpec prog 31 te_centoref17_Store := TSpec.st (i := Tryz.t31) (fields := structOf Tryz.t30) (by kernel_rfl) (by kernel_rfl) (by kernel_rfl) (by kernel_rfl) (by kernel_rfl) (by kernel_rfl) (by kernel_rfl) (by kernel_rfl) (by kernel_rfl) (by kernel_rfl) (by kernel_rfl) (by kernel_rfl) (by kernel_rfl)
def te_api_Errno : TE := ⟨.sc, 1, 8, [.int .i64], [.int .i64 (0 : Int)], []⟩
theorem te_api_Errno.ok : TSpec prog 32 te_api_Errno := TSpec.sc (i := Tryz.t32) (d := descOf Tryz.t3) (by kernel_rfl) (by kernel_rfl) (by kernel_rfl) (by kernel_rfl) (by kernel_rfl) (by kernel_rfl) (by kernel_rfl) (by kernel_rfl) (by kernel_rfl)
def te_sl_string : TE := ⟨.sl 9, 1, 24, [.slice], [.slice none 0 0], []⟩
theorem te_sl_string.ok : TSpec prog 34 te_sl_string := TSpec.sl (i := Tryz.t34) (by kernel_rfl) (by kernel_rfl) (by kernel_rfl) (by kernel_rfl) (by kernel_rfl) (by kernel_rfl)
def te_sl_api_Hunk : TE := ⟨.sl 76, 1, 24, [.slice], [.slice none 0 0], []⟩
theorem te_sl_api_Hunk.ok : TSpec prog 35 te_sl_api_Hunk := TSpec.sl (i := Tryz.t35) (by kernel_rfl) (by kernel_rfl) (by kernel_rfl) (by kernel_rfl) (by kernel_rfl) (by kernel_rfl)
def te_api_Patch : TE := ⟨.st [(0, 24), (1, 23), (2, 34), (3, 34), (4, 35)], 5, 104, [.int .u32, .slice, .slice, .slice, .slice], [.int .u32 (0 : Int), .slice none 0 0, .slice none 0 0, .slice none 0 0, .slice none 0 0], []⟩
theorem te_api_Patch.ok : TSpec prog 37 te_api_Patch := TSpec.st (i := Tryz.t37) (fields := structOf Tryz.t36) (by kernel_rfl) (by kernel_rfl) (by kernel_rfl) (by kernel_rfl) (by kernel_rfl) (by kernel_rfl) (by kernel_rfl) (by kernel_rfl) (by kernel_rfl) (by kernel_rfl) (by kernel_rfl) (by kernel_rfl) (by kernel_rfl)
def te_sl_uint32_api_Errno : TE := ⟨.tup [23, 32], 1, 0, [], [], []⟩
theorem te_sl_uint32_api_Errno.ok : TSpec prog 39 te_sl_uint32_api_Errno := TSpec.tup (i := Tryz.t39) (by kernel_rfl) (by kernel_rfl) (by kernel_rfl) (by kernel_rfl) (by kernel_rfl)
def te_sl_uint32_int : TE := ⟨.tup [23, 3], 1, 0, [], [], []⟩
theorem te_sl_uint32_int.ok : TSpec prog 41 te_sl_uint32_int := TSpec.tup (i := Tryz.t41) (by kernel_rfl) (by kernel_rfl) (by kernel_rfl) (by kernel_rfl) (by kernel_rfl)
def te_sl_api_Patch_api_Errno : TE := ⟨.tup [22, 32], 1, 0, [], [], []⟩
theorem te_sl_api_Patch_api_Errno.ok : TSpec prog 43 te_sl_api_Patch_api_Errno := TSpec.tup (i := Tryz.t43) (by kernel_rfl) (by kernel_rfl) (by kernel_rfl) (by kernel_rfl) (by kernel_rfl)
def te_sl_api_Patch_int : TE := ⟨.tup [22, 3], 1, 0, [], [], []⟩
theorem te_sl_api_Patch_int.ok : TSpec prog 45 te_sl_api_Patch_int := TSpec.tup (i := Tryz.t45) (by kernel_rfl) (by kernel_rfl) (by kernel_rfl) (by kernel_rfl) (by kernel_rfl)
def te_api_Patch_bool : TE := ⟨.tup [37, 4], 1, 0, [], [], []⟩
theorem te_api_Patch_bool.ok : TSpec prog 52 te_api_Patch_bool := TSpec.tup (i := Tryz.t52) (by kernel_rfl) (by kernel_rfl) (by kernel_rfl) (by kernel_rfl) (by kernel_rfl)
def te_map_uint32_api_Patch : TE := ⟨.sc, 1, 8, [.map], [.map none], []⟩
theorem te_map_uint32_api_Patch.ok : TSpec prog 56 te_map_uint32_api_Patch := TSpec.sc (i := Tryz.t56) (d := descOf Tryz.t56) (by kernel_rfl) (by kernel_rfl) (by kernel_rfl) (by kernel_rfl) (by kernel_rfl) (by kernel_rfl) (by kernel_rfl) (by kernel_rfl) (by kernel_rfl)
def te_store_Store : TE := ⟨.st [(0, 56)], 1, 8, [.map], [.map none], []⟩
theorem te_store_Store.ok : TSpec prog 58 te_store_Store := TSpec.st (i := Tryz.t58) (fields := structOf Tryz.t57) (by kernel_rfl) (by kernel_rfl) (by kernel_rfl) (by kernel_rfl) (by kernel_rfl) (by kernel_rfl) (by kernel_rfl) (by kernel_rfl) (by kernel_rfl) (by kernel_rfl) (by kernel_rfl) (by kernel_rfl) (by kernel_rfl)
def te_iter_Seq_uint32 : TE := ⟨.sc, 1, 8, [.any], [.nilFunc], []⟩
theorem te_iter_Seq_uint32.ok : TSpec prog 62 te_iter_Seq_uint32 := TSpec.sc (i := Tryz.t62) (d := descOf Tryz.t61) (by kernel_rfl) (by kernel_rfl) (by kernel_rfl) (by kernel_rfl) (by kernel_rfl) (by kernel_rfl) (by kernel_rfl) (by kernel_rfl) (by kernel_rfl)
def te_funcuint32_bool : TE := ⟨.sc, 1, 8, [.any], [.nilFunc], []⟩
theorem te_funcuint32_bool.ok : TSpec prog 70 te_funcuint32_bool := TSpec.sc (i := Tryz.t70) (d := descOf Tryz.t70) (by kernel_rfl) (by kernel_rfl) (by kernel_rfl) (by kernel_rfl) (by kernel_rfl) (by kernel_rfl) (by kernel_rfl) (by kernel_rfl) (by kernel_rfl)
def te_funcapi_Hunk_api_Hunk_bool : TE := ⟨.sc, 1, 8, [.any], [.nilFunc], []⟩
theorem te_funcapi_Hunk_api_Hunk_bool.ok : TSpec prog 72 te_funcapi_Hunk_api_Hunk_bool := TSpec.sc (i := Tryz.t72) (d := descOf Tryz.t72) (by kernel_rfl) (by kernel_rfl) (by kernel_rfl) (by kernel_rfl) (by kernel_rfl) (by kernel_rfl) (by kernel_rfl) (by kernel_rfl) (by kernel_rfl)
def te_sl_api_Edge : TE := ⟨.sl 91, 1, 24, [.slice], [.slice none 0 0], []⟩
theorem te_sl_api_Edge.ok : TSpec prog 73 te_sl_api_Edge := TSpec.sl (i := Tryz.t73) (by kernel_rfl) (by kernel_rfl) (by kernel_rfl) (by kernel_rfl) (by kernel_rfl) (by kernel_rfl)
def te_sl_api_LineID : TE := ⟨.sl 89, 1, 24, [.slice], [.slice none 0 0], []⟩
theorem te_sl_api_LineID.ok : TSpec prog 74 te_sl_api_LineID := TSpec.sl (i := Tryz.t74) (by kernel_rfl) (by kernel_rfl) (by kernel_rfl) (by kernel_rfl) (by kernel_rfl) (by kernel_rfl)
def te_api_Hunk : TE := ⟨.st [(0, 9), (1, 34), (2, 73), (3, 74)], 4, 88, [.str, .slice, .slice, .slice], [.string .empty, .slice none 0 0, .slice none 0 0, .slice none 0 0], []⟩
theorem te_api_Hunk.ok : TSpec prog 76 te_api_Hunk := TSpec.st (i := Tryz.t76) (fields := structOf Tryz.t75) (by kernel_rfl) (by kernel_rfl) (by kernel_rfl) (by kernel_rfl) (by kernel_rfl) (by kernel_rfl) (by kernel_rfl) (by kernel_rfl) (by kernel_rfl) (by kernel_rfl) (by kernel_rfl) (by kernel_rfl) (by kernel_rfl)
def te_funcstring_bool : TE := ⟨.sc, 1, 8, [.any], [.nilFunc], []⟩
theorem te_funcstring_bool.ok : TSpec prog 81 te_funcstring_bool := TSpec.sc (i := Tryz.t81) (d := descOf Tryz.t81) (by kernel_rfl) (by kernel_rfl) (by kernel_rfl) (by kernel_rfl) (by kernel_rfl) (by kernel_rfl) (by kernel_rfl) (by kernel_rfl) (by kernel_rfl)
def te_api_LineID : TE := ⟨.st [(0, 24), (1, 3)], 2, 16, [.int .u32, .int .i64], [.int .u32 (0 : Int), .int .i64 (0 : Int)], []⟩
theorem te_api_LineID.ok : TSpec prog 89 te_api_LineID := TSpec.st (i := Tryz.t89) (fields := structOf Tryz.t88) (by kernel_rfl) (by kernel_rfl) (by kernel_rfl) (by kernel_rfl) (by kernel_rfl) (by kernel_rfl) (by kernel_rfl) (by kernel_rfl) (by kernel_rfl) (by kernel_rfl) (by kernel_rfl) (by kernel_rfl) (by kernel_rfl)
def te_api_Edge : TE := ⟨.st [(0, 89), (2, 89)], 4, 32, [.int .u32, .int .i64, .int .u32, .int .i64], [.int .u32 (0 : Int), .int .i64 (0 : Int), .int .u32 (0 : Int), .int .i64 (0 : Int)], []⟩
theorem te_api_Edge.ok : TSpec prog 91 te_api_Edge := TSpec.st (i := Tryz.t91) (fields := structOf Tryz.t90) (by kernel_rfl) (by kernel_rfl) (by kernel_rfl) (by kernel_rfl) (by kernel_rfl) (by kernel_rfl) (by kernel_rfl) (by kernel_rfl) (by kernel_rfl) (by kernel_rfl) (by kernel_rfl) (by kernel_rfl) (by kernel_rfl)
def te_map_uint32_bool : TE := ⟨.sc, 1, 8, [.map], [.map none], []⟩
theorem te_map_uint32_bool.ok : TSpec prog 95 te_map_uint32_bool := TSpec.sc (i := Tryz.t95) (d := descOf Tryz.t95) (by kernel_rfl) (by kernel_rfl) (by kernel_rfl) (by kernel_rfl) (by kernel_rfl) (by kernel_rfl) (by kernel_rfl) (by kernel_rfl) (by kernel_rfl)
def te_uint : TE := ⟨.sc, 1, 8, [.int .u64], [.int .u64 (0 : Int)], []⟩
theorem te_uint.ok : TSpec prog 98 te_uint := TSpec.sc (i := Tryz.t98) (d := descOf Tryz.t98) (by kernel_rfl) (by kernel_rfl) (by kernel_rfl) (by kernel_rfl) (by kernel_rfl) (by kernel_rfl) (by kernel_rfl) (by kernel_rfl) (by kernel_rfl)
def te_funcstring_string_int : TE := ⟨.sc, 1, 8, [.any], [.nilFunc], []⟩
theorem te_funcstring_string_int.ok : TSpec prog 102 te_funcstring_string_int := TSpec.sc (i := Tryz.t102) (d := descOf Tryz.t102) (by kernel_rfl) (by kernel_rfl) (by kernel_rfl) (by kernel_rfl) (by kernel_rfl) (by kernel_rfl) (by kernel_rfl) (by kernel_rfl) (by kernel_rfl)
def te_funcuint32_uint32_int : TE := ⟨.sc, 1, 8, [.any], [.nilFunc], []⟩
theorem te_funcuint32_uint32_int.ok : TSpec prog 104 te_funcuint32_uint32_int := TSpec.sc (i := Tryz.t104) (d := descOf Tryz.t104) (by kernel_rfl) (by kernel_rfl) (by kernel_rfl) (by kernel_rfl) (by kernel_rfl) (by kernel_rfl) (by kernel_rfl) (by kernel_rfl) (by kernel_rfl)
def te_funcapi_Edge_api_Edge_int : TE := ⟨.sc, 1, 8, [.any], [.nilFunc], []⟩
theorem te_funcapi_Edge_api_Edge_int.ok : TSpec prog 109 te_funcapi_Edge_api_Edge_int := TSpec.sc (i := Tryz.t109) (d := descOf Tryz.t109) (by kernel_rfl) (by kernel_rfl) (by kernel_rfl) (by kernel_rfl) (by kernel_rfl) (by kernel_rfl) (by kernel_rfl) (by kernel_rfl) (by kernel_rfl)
def te_funcapi_LineID_api_LineID_int : TE := ⟨.sc, 1, 8, [.any], [.nilFunc], []⟩
theorem te_funcapi_LineID_api_LineID_int.ok : TSpec prog 111 te_funcapi_LineID_api_LineID_int := TSpec.sc (i := Tryz.t111) (d := descOf Tryz.t111) (by kernel_rfl) (by kernel_rfl) (by kernel_rfl) (by kernel_rfl) (by kernel_rfl) (by kernel_rfl) (by kernel_rfl) (by kernel_rfl) (by kernel_rfl)
def te_slices_sortedHint : TE := ⟨.sc, 1, 8, [.int .i64], [.int .i64 (0 : Int)], []⟩
theorem te_slices_sortedHint.ok : TSpec prog 118 te_slices_sortedHint := TSpec.sc (i := Tryz.t118) (d := descOf Tryz.t3) (by kernel_rfl) (by kernel_rfl) (by kernel_rfl) (by kernel_rfl) (by kernel_rfl) (by kernel_rfl) (by kernel_rfl) (by kernel_rfl) (by kernel_rfl)
def te_int_slices_sortedHint : TE := ⟨.tup [3, 118], 1, 0, [], [], []⟩
theorem te_int_slices_sortedHint.ok : TSpec prog 119 te_int_slices_sortedHint := TSpec.tup (i := Tryz.t119) (by kernel_rfl) (by kernel_rfl) (by kernel_rfl) (by kernel_rfl) (by kernel_rfl)
def te_int_bool : TE := ⟨.tup [3, 4], 1, 0, [], [], []⟩
theorem te_int_bool.ok : TSpec prog 124 te_int_bool := TSpec.tup (i := Tryz.t124) (by kernel_rfl) (by kernel_rfl) (by kernel_rfl) (by kernel_rfl) (by kernel_rfl)
def te_uint64 : TE := ⟨.sc, 1, 8, [.int .u64], [.int .u64 (0 : Int)], []⟩
theorem te_uint64.ok : TSpec prog 128 te_uint64 := TSpec.sc (i := Tryz.t128) (d := descOf Tryz.t128) (by kernel_rfl) (by kernel_rfl) (by kernel_rfl) (by kernel_rfl) (by kernel_rfl) (by kernel_rfl) (by kernel_rfl) (by kernel_rfl) (by kernel_rfl)
def te_slices_xorshift : TE := ⟨.sc, 1, 8, [.int .u64], [.int .u64 (0 : Int)], []⟩
theorem te_slices_xorshift.ok : TSpec prog 132 te_slices_xorshift := TSpec.sc (i := Tryz.t132) (d := descOf Tryz.t128) (by kernel_rfl) (by kernel_rfl) (by kernel_rfl) (by kernel_rfl) (by kernel_rfl) (by kernel_rfl) (by kernel_rfl) (by kernel_rfl) (by kernel_rfl)
def te_p_int : TE := ⟨.sc, 1, 8, [.ptr], [.pointer none], []⟩
theorem te_p_int.ok : TSpec prog 136 te_p_int := TSpec.sc (i := Tryz.t136) (d := descOf Tryz.t136) (by kernel_rfl) (by kernel_rfl) (by kernel_rfl) (by kernel_rfl) (by kernel_rfl) (by kernel_rfl) (by kernel_rfl) (by kernel_rfl) (by kernel_rfl)
def te_sl_int : TE := ⟨.sl 3, 1, 24, [.slice], [.slice none 0 0], []⟩
theorem te_sl_int.ok : TSpec prog 138 te_sl_int := TSpec.sl (i := Tryz.t138) (by kernel_rfl) (by kernel_rfl) (by kernel_rfl) (by kernel_rfl) (by kernel_rfl) (by kernel_rfl)
def te_p_slices_xorshift : TE := ⟨.sc, 1, 8, [.ptr], [.pointer none], []⟩
theorem te_p_slices_xorshift.ok : TSpec prog 140 te_p_slices_xorshift := TSpec.sc (i := Tryz.t140) (d := descOf Tryz.t140) (by kernel_rfl) (by kernel_rfl) (by kernel_rfl) (by kernel_rfl) (by kernel_rfl) (by kernel_rfl) (by kernel_rfl) (by kernel_rfl) (by kernel_rfl)
def te_int_int : TE := ⟨.tup [3, 3], 1, 0, [], [], []⟩
theorem te_int_int.ok : TSpec prog 141 te_int_int := TSpec.tup (i := Tryz.t141) (by kernel_rfl) (by kernel_rfl) (by kernel_rfl) (by kernel_rfl) (by kernel_rfl)
def tab : Tab := Tab.of [(0, te_unit), (3, te_int), (4, te_bool), (5, te_uint8), (9, te_string), (20, te_interface), (22, te_sl_api_Patch), (23, te_sl_uint32), (24, te_uint32), (27, te_p_store_Store), (29, te_p_centoref17_Store), (31, te_centoref17_Store), (32, te_api_Errno), (34, te_sl_string), (35, te_sl_api_Hunk), (37, te_api_Patch), (39, te_sl_uint32_api_Errno), (41, te_sl_uint32_int), (43, te_sl_api_Patch_api_Errno), (45, te_sl_api_Patch_int), (52, te_api_Patch_bool), (56, te_map_uint32_api_Patch), (58, te_store_Store), (62, te_iter_Seq_uint32), (70, te_funcuint32_bool), (72, te_funcapi_Hunk_api_Hunk_bool), (73, te_sl_api_Edge), (74, te_sl_api_LineID), (76, te_api_Hunk), (81, te_funcstring_bool), (89, te_api_LineID), (91, te_api_Edge), (95, te_map_uint32_bool), (98, te_uint), (102, te_funcstring_string_int), (104, te_funcuint32_uint32_int), (109, te_funcapi_Edge_api_Edge_int), (111, te_funcapi_LineID_api_LineID_int), (118, te_slices_sortedHint), (119, te_int_slices_sortedHint), (124, te_int_bool), (128, te_uint64), (132, te_slices_xorshift), (136, te_p_int), (138, te_sl_int), (140, te_p_slices_xorshift), (141, te_int_int)]
theorem tabOk : TOk prog tab := (TOk.cons te_unit.ok (TOk.cons te_int.ok (TOk.cons te_bool.ok (TOk.cons te_uint8.ok (TOk.cons te_string.ok (TOk.cons te_interface.ok (TOk.cons te_sl_api_Patch.ok (TOk.cons te_sl_uint32.ok (TOk.cons te_uint32.ok (TOk.cons te_p_store_Store.ok (TOk.cons te_p_centoref17_Store.ok (TOk.cons te_centoref17_Store.ok (TOk.cons te_api_Errno.ok (TOk.cons te_sl_string.ok (TOk.cons te_sl_api_Hunk.ok (TOk.cons te_api_Patch.ok (TOk.cons te_sl_uint32_api_Errno.ok (TOk.cons te_sl_uint32_int.ok (TOk.cons te_sl_api_Patch_api_Errno.ok (TOk.cons te_sl_api_Patch_int.ok (TOk.cons te_api_Patch_bool.ok (TOk.cons te_map_uint32_api_Patch.ok (TOk.cons te_store_Store.ok (TOk.cons te_iter_Seq_uint32.ok (TOk.cons te_funcuint32_bool.ok (TOk.cons te_funcapi_Hunk_api_Hunk_bool.ok (TOk.cons te_sl_api_Edge.ok (TOk.cons te_sl_api_LineID.ok (TOk.cons te_api_Hunk.ok (TOk.cons te_funcstring_bool.ok (TOk.cons te_api_LineID.ok (TOk.cons te_api_Edge.ok (TOk.cons te_map_uint32_bool.ok (TOk.cons te_uint.ok (TOk.cons te_funcstring_string_int.ok (TOk.cons te_funcuint32_uint32_int.ok (TOk.cons te_funcapi_Edge_api_Edge_int.ok (TOk.cons te_funcapi_LineID_api_LineID_int.ok (TOk.cons te_slices_sortedHint.ok (TOk.cons te_int_slices_sortedHint.ok (TOk.cons te_int_bool.ok (TOk.cons te_uint64.ok (TOk.cons te_slices_xorshift.ok (TOk.cons te_p_int.ok (TOk.cons te_sl_int.ok (TOk.cons te_p_slices_xorshift.ok (TOk.cons te_int_int.ok (TOk.nil _))))))))))))))))))))))))))))))))))))))))))))))))
abbrev centolaw17_StorePlays.num : FuncId := 3
def centolaw17_StorePlays.C (lp1 : Option Addr) (ll2 : Nat) (lc3 : Nat) (idsp4 : Option Addr) (idsl5 : Nat) (idsc6 : Nat) (id7 : Int) (H : Hp) (K : Bool → Hp → Prop) : Prop := CallH prog 3 [.slice lp1 ll2 lc3, .slice idsp4 idsl5 idsc6, .int .u32 id7] H (fun v H2 => liftB v fun r8 => K r8 H2)
abbrev centolaw17_known.num : FuncId := 4
def centolaw17_known.C  (H : Hp) (K : Bool → Hp → Prop) : Prop := CallH prog 4 [] H (fun v H2 => liftB v fun r1 => K r1 H2)
abbrev centolaw17_fewAll.num : FuncId := 5
def centolaw17_fewAll.C (lp1 : Option Addr) (ll2 : Nat) (lc3 : Nat) (H : Hp) (K : Bool → Hp → Prop) : Prop := CallH prog 5 [.slice lp1 ll2 lc3] H (fun v H2 => liftB v fun r4 => K r4 H2)
abbrev store_New.num : FuncId := 6
def store_New.C  (H : Hp) (K : Option Addr → Hp → Prop) : Prop := CallH prog 6 [] H (fun v H2 => liftP v fun r1 => K r1 H2)
abbrev store_Store_Copy.num : FuncId := 7
def store_Store_Copy.C (s1 : Option Addr) (H : Hp) (K : Option Addr → Hp → Prop) : Prop := CallH prog 7 [.pointer s1] H (fun v H2 => liftP v fun r2 => K r2 H2)
abbrev store_Store_Add.num : FuncId := 8
def store_Store_Add.C (s1 : Option Addr) (p2 : Int) (pp3 : Option Addr) (pl4 : Nat) (pc5 : Nat) (pp6 : Option Addr) (pl7 : Nat) (pc8 : Nat) (pp9 : Option Addr) (pl10 : Nat) (pc11 : Nat) (pp12 : Option Addr) (pl13 : Nat) (pc14 : Nat) (H : Hp) (K : Int → Hp → Prop) : Prop := CallH prog 8 [.pointer s1, .agg ⟨[.int .u32 p2, .slice pp3 pl4 pc5, .slice pp6 pl7 pc8, .slice pp9 pl10 pc11, .slice pp12 pl13 pc14]⟩] H (fun v H2 => liftI .i64 v fun r15 => K r15 H2)
abbrev centoref17_Store_Add.num : FuncId := 9
def centoref17_Store_Add.C (s1 : Option Addr) (p2 : Int) (pp3 : Option Addr) (pl4 : Nat) (pc5 : Nat) (pp6 : Option Addr) (pl7 : Nat) (pc8 : Nat) (pp9 : Option Addr) (pl10 : Nat) (pc11 : Nat) (pp12 : Option Addr) (pl13 : Nat) (pc14 : Nat) (H : Hp) (K : Int → Hp → Prop) : Prop := CallH prog 9 [.pointer s1, .agg ⟨[.int .u32 p2, .slice pp3 pl4 pc5, .slice pp6 pl7 pc8, .slice pp9 pl10 pc11, .slice pp12 pl13 pc14]⟩] H (fun v H2 => liftI .i64 v fun r15 => K r15 H2)
abbrev store_Store_Need.num : FuncId := 10
def store_Store_Need.C (s1 : Option Addr) (idsp2 : Option Addr) (idsl3 : Nat) (idsc4 : Nat) (H : Hp) (K : Option Addr → Nat → Nat → Int → Hp → Prop) : Prop := CallH prog 10 [.pointer s1, .slice idsp2 idsl3 idsc4] H (fun v H2 => tupV v fun vs => d2 vs fun wv0 wv1 => liftL wv0 fun rp5 rl6 rc7 => liftI .i64 wv1 fun r8 => K rp5 rl6 rc7 r8 H2)
abbrev centoref17_Store_Need.num : FuncId := 11
def centoref17_Store_Need.C (s1 : Option Addr) (idsp2 : Option Addr) (idsl3 : Nat) (idsc4 : Nat) (H : Hp) (K : Option Addr → Nat → Nat → Int → Hp → Prop) : Prop := CallH prog 11 [.pointer s1, .slice idsp2 idsl3 idsc4] H (fun v H2 => tupV v fun vs => d2 vs fun wv0 wv1 => liftL wv0 fun rp5 rl6 rc7 => liftI .i64 wv1 fun r8 => K rp5 rl6 rc7 r8 H2)
abbrev store_Store_List.num : FuncId := 12
def store_Store_List.C (s1 : Option Addr) (idsp2 : Option Addr) (idsl3 : Nat) (idsc4 : Nat) (H : Hp) (K : Option Addr → Nat → Nat → Int → Hp → Prop) : Prop := CallH prog 12 [.pointer s1, .slice idsp2 idsl3 idsc4] H (fun v H2 => tupV v fun vs => d2 vs fun wv0 wv1 => liftL wv0 fun rp5 rl6 rc7 => liftI .i64 wv1 fun r8 => K rp5 rl6 rc7 r8 H2)
abbrev centoref17_Store_List.num : FuncId := 13
def centoref17_Store_List.C (s1 : Option Addr) (idsp2 : Option Addr) (idsl3 : Nat) (idsc4 : Nat) (H : Hp) (K : Option Addr → Nat → Nat → Int → Hp → Prop) : Prop := CallH prog 13 [.pointer s1, .slice idsp2 idsl3 idsc4] H (fun v H2 => tupV v fun vs => d2 vs fun wv0 wv1 => liftL wv0 fun rp5 rl6 rc7 => liftI .i64 wv1 fun r8 => K rp5 rl6 rc7 r8 H2)
abbrev centoref12_SameIDs.num : FuncId := 14
def centoref12_SameIDs.C (ap1 : Option Addr) (al2 : Nat) (ac3 : Nat) (bp4 : Option Addr) (bl5 : Nat) (bcq6 : Nat) (H : Hp) (K : Bool → Hp → Prop) : Prop := CallH prog 14 [.slice ap1 al2 ac3, .slice bp4 bl5 bcq6] H (fun v H2 => liftB v fun r7 => K r7 H2)
abbrev store_Store_Closed.num : FuncId := 15
def store_Store_Closed.C (s1 : Option Addr) (idsp2 : Option Addr) (idsl3 : Nat) (idsc4 : Nat) (H : Hp) (K : Bool → Hp → Prop) : Prop := CallH prog 15 [.pointer s1, .slice idsp2 idsl3 idsc4] H (fun v H2 => liftB v fun r5 => K r5 H2)
abbrev centoref17_Store_Closed.num : FuncId := 16
def centoref17_Store_Closed.C (s1 : Option Addr) (idsp2 : Option Addr) (idsl3 : Nat) (idsc4 : Nat) (H : Hp) (K : Bool → Hp → Prop) : Prop := CallH prog 16 [.pointer s1, .slice idsp2 idsl3 idsc4] H (fun v H2 => liftB v fun r5 => K r5 H2)
abbrev store_Store_IDs.num : FuncId := 17
def store_Store_IDs.C (s1 : Option Addr) (H : Hp) (K : Option Addr → Nat → Nat → Hp → Prop) : Prop := CallH prog 17 [.pointer s1] H (fun v H2 => liftL v fun rp2 rl3 rc4 => K rp2 rl3 rc4 H2)
abbrev centoref17_Store_IDs.num : FuncId := 18
def centoref17_Store_IDs.C (s1 : Option Addr) (H : Hp) (K : Option Addr → Nat → Nat → Hp → Prop) : Prop := CallH prog 18 [.pointer s1] H (fun v H2 => liftL v fun rp2 rl3 rc4 => K rp2 rl3 rc4 H2)
abbrev store_Store_Users.num : FuncId := 19
def store_Store_Users.C (s1 : Option Addr) (idsp2 : Option Addr) (idsl3 : Nat) (idsc4 : Nat) (id5 : Int) (H : Hp) (K : Option Addr → Nat → Nat → Hp → Prop) : Prop := CallH prog 19 [.pointer s1, .slice idsp2 idsl3 idsc4, .int .u32 id5] H (fun v H2 => liftL v fun rp6 rl7 rc8 => K rp6 rl7 rc8 H2)
abbrev centoref17_Store_Users.num : FuncId := 20
def centoref17_Store_Users.C (s1 : Option Addr) (idsp2 : Option Addr) (idsl3 : Nat) (idsc4 : Nat) (id5 : Int) (H : Hp) (K : Option Addr → Nat → Nat → Hp → Prop) : Prop := CallH prog 20 [.pointer s1, .slice idsp2 idsl3 idsc4, .int .u32 id5] H (fun v H2 => liftL v fun rp6 rl7 rc8 => K rp6 rl7 rc8 H2)
abbrev centoref12_Same.num : FuncId := 21
def centoref12_Same.C (a1 : Int) (ap2 : Option Addr) (al3 : Nat) (ac4 : Nat) (ap5 : Option Addr) (al6 : Nat) (ac7 : Nat) (ap8 : Option Addr) (al9 : Nat) (ac10 : Nat) (ap11 : Option Addr) (al12 : Nat) (ac13 : Nat) (bq14 : Int) (bp15 : Option Addr) (bl16 : Nat) (bcq17 : Nat) (bp18 : Option Addr) (bl19 : Nat) (bcq20 : Nat) (bp21 : Option Addr) (bl22 : Nat) (bcq23 : Nat) (bp24 : Option Addr) (bl25 : Nat) (bcq26 : Nat) (H : Hp) (K : Bool → Hp → Prop) : Prop := CallH prog 21 [.agg ⟨[.int .u32 a1, .slice ap2 al3 ac4, .slice ap5 al6 ac7, .slice ap8 al9 ac10, .slice ap11 al12 ac13]⟩, .agg ⟨[.int .u32 bq14, .slice bp15 bl16 bcq17, .slice bp18 bl19 bcq20, .slice bp21 bl22 bcq23, .slice bp24 bl25 bcq26]⟩] H (fun v H2 => liftB v fun r27 => K r27 H2)
abbrev store_Store_Get.num : FuncId := 22
def store_Store_Get.C (s1 : Option Addr) (id2 : Int) (H : Hp) (K : Int → Option Addr → Nat → Nat → Option Addr → Nat → Nat → Option Addr → Nat → Nat → Option Addr → Nat → Nat → Bool → Hp → Prop) : Prop := CallH prog 22 [.pointer s1, .int .u32 id2] H (fun v H2 => tupV v fun vs => d2 vs fun wv0 wv1 => aggV wv0 fun cs => d5 cs fun wwv00 wwv01 wwv02 wwv03 wwv04 => liftI .u32 wwv00 fun r3 => liftL wwv01 fun rp4 rl5 rc6 => liftL wwv02 fun rp7 rl8 rc9 => liftL wwv03 fun rp10 rl11 rc12 => liftL wwv04 fun rp13 rl14 rc15 => liftB wv1 fun r16 => K r3 rp4 rl5 rc6 rp7 rl8 rc9 rp10 rl11 rc12 rp13 rl14 rc15 r16 H2)
abbrev centoref17_Store_Get.num : FuncId := 23
def centoref17_Store_Get.C (s1 : Option Addr) (id2 : Int) (H : Hp) (K : Int → Option Addr → Nat → Nat → Option Addr → Nat → Nat → Option Addr → Nat → Nat → Option Addr → Nat → Nat → Bool → Hp → Prop) : Prop := CallH prog 23 [.pointer s1, .int .u32 id2] H (fun v H2 => tupV v fun vs => d2 vs fun wv0 wv1 => aggV wv0 fun cs => d5 cs fun wwv00 wwv01 wwv02 wwv03 wwv04 => liftI .u32 wwv00 fun r3 => liftL wwv01 fun rp4 rl5 rc6 => liftL wwv02 fun rp7 rl8 rc9 => liftL wwv03 fun rp10 rl11 rc12 => liftL wwv04 fun rp13 rl14 rc15 => liftB wv1 fun r16 => K r3 rp4 rl5 rc6 rp7 rl8 rc9 rp10 rl11 rc12 rp13 rl14 rc15 r16 H2)
abbrev centolaw17_few.num : FuncId := 24
def centolaw17_few.C (p1 : Int) (pp2 : Option Addr) (pl3 : Nat) (pc4 : Nat) (pp5 : Option Addr) (pl6 : Nat) (pc7 : Nat) (pp8 : Option Addr) (pl9 : Nat) (pc10 : Nat) (pp11 : Option Addr) (pl12 : Nat) (pc13 : Nat) (H : Hp) (K : Bool → Hp → Prop) : Prop := CallH prog 24 [.agg ⟨[.int .u32 p1, .slice pp2 pl3 pc4, .slice pp5 pl6 pc7, .slice pp8 pl9 pc10, .slice pp11 pl12 pc13]⟩] H (fun v H2 => liftB v fun r14 => K r14 H2)
abbrev maps_Clone_map_uint32_api_Patch_uint32_api_Patch.num : FuncId := 25
def maps_Clone_map_uint32_api_Patch_uint32_api_Patch.C (mq1 : Option Nat) (H : Hp) (K : Option Nat → Hp → Prop) : Prop := CallH prog 25 [.map mq1] H (fun v H2 => liftM v fun r2 => K r2 H2)
abbrev patch_Is.num : FuncId := 26
def patch_Is.C (p1 : Int) (pp2 : Option Addr) (pl3 : Nat) (pc4 : Nat) (pp5 : Option Addr) (pl6 : Nat) (pc7 : Nat) (pp8 : Option Addr) (pl9 : Nat) (pc10 : Nat) (pp11 : Option Addr) (pl12 : Nat) (pc13 : Nat) (H : Hp) (K : Bool → Hp → Prop) : Prop := CallH prog 26 [.agg ⟨[.int .u32 p1, .slice pp2 pl3 pc4, .slice pp5 pl6 pc7, .slice pp8 pl9 pc10, .slice pp11 pl12 pc13]⟩] H (fun v H2 => liftB v fun r14 => K r14 H2)
abbrev patch_Same.num : FuncId := 27
def patch_Same.C (a1 : Int) (ap2 : Option Addr) (al3 : Nat) (ac4 : Nat) (ap5 : Option Addr) (al6 : Nat) (ac7 : Nat) (ap8 : Option Addr) (al9 : Nat) (ac10 : Nat) (ap11 : Option Addr) (al12 : Nat) (ac13 : Nat) (bq14 : Int) (bp15 : Option Addr) (bl16 : Nat) (bcq17 : Nat) (bp18 : Option Addr) (bl19 : Nat) (bcq20 : Nat) (bp21 : Option Addr) (bl22 : Nat) (bcq23 : Nat) (bp24 : Option Addr) (bl25 : Nat) (bcq26 : Nat) (H : Hp) (K : Bool → Hp → Prop) : Prop := CallH prog 27 [.agg ⟨[.int .u32 a1, .slice ap2 al3 ac4, .slice ap5 al6 ac7, .slice ap8 al9 ac10, .slice ap11 al12 ac13]⟩, .agg ⟨[.int .u32 bq14, .slice bp15 bl16 bcq17, .slice bp18 bl19 bcq20, .slice bp21 bl22 bcq23, .slice bp24 bl25 bcq26]⟩] H (fun v H2 => liftB v fun r27 => K r27 H2)
abbrev store_Store_has.num : FuncId := 28
def store_Store_has.C (s1 : Option Addr) (idsp2 : Option Addr) (idsl3 : Nat) (idsc4 : Nat) (H : Hp) (K : Bool → Hp → Prop) : Prop := CallH prog 28 [.pointer s1, .slice idsp2 idsl3 idsc4] H (fun v H2 => liftB v fun r5 => K r5 H2)
abbrev patch_Copy.num : FuncId := 29
def patch_Copy.C (p1 : Int) (pp2 : Option Addr) (pl3 : Nat) (pc4 : Nat) (pp5 : Option Addr) (pl6 : Nat) (pc7 : Nat) (pp8 : Option Addr) (pl9 : Nat) (pc10 : Nat) (pp11 : Option Addr) (pl12 : Nat) (pc13 : Nat) (H : Hp) (K : Int → Option Addr → Nat → Nat → Option Addr → Nat → Nat → Option Addr → Nat → Nat → Option Addr → Nat → Nat → Hp → Prop) : Prop := CallH prog 29 [.agg ⟨[.int .u32 p1, .slice pp2 pl3 pc4, .slice pp5 pl6 pc7, .slice pp8 pl9 pc10, .slice pp11 pl12 pc13]⟩] H (fun v H2 => aggV v fun cs => d5 cs fun wv0 wv1 wv2 wv3 wv4 => liftI .u32 wv0 fun r14 => liftL wv1 fun rp15 rl16 rc17 => liftL wv2 fun rp18 rl19 rc20 => liftL wv3 fun rp21 rl22 rc23 => liftL wv4 fun rp24 rl25 rc26 => K r14 rp15 rl16 rc17 rp18 rl19 rc20 rp21 rl22 rc23 rp24 rl25 rc26 H2)
abbrev centoref12_Is.num : FuncId := 30
def centoref12_Is.C (p1 : Int) (pp2 : Option Addr) (pl3 : Nat) (pc4 : Nat) (pp5 : Option Addr) (pl6 : Nat) (pc7 : Nat) (pp8 : Option Addr) (pl9 : Nat) (pc10 : Nat) (pp11 : Option Addr) (pl12 : Nat) (pc13 : Nat) (H : Hp) (K : Bool → Hp → Prop) : Prop := CallH prog 30 [.agg ⟨[.int .u32 p1, .slice pp2 pl3 pc4, .slice pp5 pl6 pc7, .slice pp8 pl9 pc10, .slice pp11 pl12 pc13]⟩] H (fun v H2 => liftB v fun r14 => K r14 H2)
abbrev store_Store_needed.num : FuncId := 31
def store_Store_needed.C (s1 : Option Addr) (idsp2 : Option Addr) (idsl3 : Nat) (idsc4 : Nat) (H : Hp) (K : Value → Hp → Prop) : Prop := CallH prog 31 [.pointer s1, .slice idsp2 idsl3 idsc4] H (fun v H2 => (fun r5 => K r5 H2) v)
abbrev slices_Sort_uint32_uint32.num : FuncId := 32
def slices_Sort_uint32_uint32.C (xp1 : Option Addr) (xl2 : Nat) (xc3 : Nat) (H : Hp) (K : Hp → Prop) : Prop := CallH prog 32 [.slice xp1 xl2 xc3] H (fun v H2 => tupV v fun vs => d0 vs (K H2))
abbrev centoref12_Put.num : FuncId := 33
def centoref12_Put.C (lp1 : Option Addr) (ll2 : Nat) (lc3 : Nat) (id4 : Int) (H : Hp) (K : Option Addr → Nat → Nat → Hp → Prop) : Prop := CallH prog 33 [.slice lp1 ll2 lc3, .int .u32 id4] H (fun v H2 => liftL v fun rp5 rl6 rc7 => K rp5 rl6 rc7 H2)
abbrev centoref12_Has.num : FuncId := 34
def centoref12_Has.C (lp1 : Option Addr) (ll2 : Nat) (lc3 : Nat) (id4 : Int) (H : Hp) (K : Bool → Hp → Prop) : Prop := CallH prog 34 [.slice lp1 ll2 lc3, .int .u32 id4] H (fun v H2 => liftB v fun r5 => K r5 H2)
abbrev store_set.num : FuncId := 35
def store_set.C (idsp1 : Option Addr) (idsl2 : Nat) (idsc3 : Nat) (H : Hp) (K : Option Addr → Nat → Nat → Hp → Prop) : Prop := CallH prog 35 [.slice idsp1 idsl2 idsc3] H (fun v H2 => liftL v fun rp4 rl5 rc6 => K rp4 rl5 rc6 H2)
abbrev slices_Equal_uint32_uint32.num : FuncId := 36
def slices_Equal_uint32_uint32.C (sp1 : Option Addr) (sl2 : Nat) (sc3 : Nat) (sp4 : Option Addr) (sl5 : Nat) (sc6 : Nat) (H : Hp) (K : Bool → Hp → Prop) : Prop := CallH prog 36 [.slice sp1 sl2 sc3, .slice sp4 sl5 sc6] H (fun v H2 => liftB v fun r7 => K r7 H2)
abbrev slices_Sorted_uint32.num : FuncId := 37
def slices_Sorted_uint32.C (seq1 : Value) (H : Hp) (K : Option Addr → Nat → Nat → Hp → Prop) : Prop := CallH prog 37 [seq1] H (fun v H2 => liftL v fun rp2 rl3 rc4 => K rp2 rl3 rc4 H2)
abbrev maps_Keys_map_uint32_api_Patch_uint32_api_Patch.num : FuncId := 38
def maps_Keys_map_uint32_api_Patch_uint32_api_Patch.C (mq1 : Option Nat) (H : Hp) (K : Value → Hp → Prop) : Prop := CallH prog 38 [.map mq1] H (fun v H2 => (fun r2 => K r2 H2) v)
abbrev slices_DeleteFunc_uint32_uint32.num : FuncId := 39
def slices_DeleteFunc_uint32_uint32.C (sp1 : Option Addr) (sl2 : Nat) (sc3 : Nat) (del4 : Value) (H : Hp) (K : Option Addr → Nat → Nat → Hp → Prop) : Prop := CallH prog 39 [.slice sp1 sl2 sc3, del4] H (fun v H2 => liftL v fun rp5 rl6 rc7 => K rp5 rl6 rc7 H2)
abbrev store_Store_Users_1.num : FuncId := 40
def store_Store_Users_1.C (x1 : Int) (cap2 : Nat) (cap3 : Nat) (H : Hp) (K : Bool → Hp → Prop) : Prop := CallH prog 40 [.int .u32 x1, .pointer (some ⟨cap2, 0, none⟩), .pointer (some ⟨cap3, 0, none⟩)] H (fun v H2 => liftB v fun r4 => K r4 H2)
abbrev slices_Contains_uint32_uint32.num : FuncId := 41
def slices_Contains_uint32_uint32.C (sp1 : Option Addr) (sl2 : Nat) (sc3 : Nat) (v4 : Int) (H : Hp) (K : Bool → Hp → Prop) : Prop := CallH prog 41 [.slice sp1 sl2 sc3, .int .u32 v4] H (fun v H2 => liftB v fun r5 => K r5 H2)
abbrev centoref12_sameTexts.num : FuncId := 42
def centoref12_sameTexts.C (ap1 : Option Addr) (al2 : Nat) (ac3 : Nat) (bp4 : Option Addr) (bl5 : Nat) (bcq6 : Nat) (H : Hp) (K : Bool → Hp → Prop) : Prop := CallH prog 42 [.slice ap1 al2 ac3, .slice bp4 bl5 bcq6] H (fun v H2 => liftB v fun r7 => K r7 H2)
abbrev centoref12_SameHunk.num : FuncId := 43
def centoref12_SameHunk.C (a1 : ByteArray) (ap2 : Option Addr) (al3 : Nat) (ac4 : Nat) (ap5 : Option Addr) (al6 : Nat) (ac7 : Nat) (ap8 : Option Addr) (al9 : Nat) (ac10 : Nat) (bq11 : ByteArray) (bp12 : Option Addr) (bl13 : Nat) (bcq14 : Nat) (bp15 : Option Addr) (bl16 : Nat) (bcq17 : Nat) (bp18 : Option Addr) (bl19 : Nat) (bcq20 : Nat) (H : Hp) (K : Bool → Hp → Prop) : Prop := CallH prog 43 [.agg ⟨[.string a1, .slice ap2 al3 ac4, .slice ap5 al6 ac7, .slice ap8 al9 ac10]⟩, .agg ⟨[.string bq11, .slice bp12 bl13 bcq14, .slice bp15 bl16 bcq17, .slice bp18 bl19 bcq20]⟩] H (fun v H2 => liftB v fun r21 => K r21 H2)
abbrev maps_clone.num : FuncId := 44
def maps_clone.C (a1 : Value) (H : Hp) (K : Value → Hp → Prop) : Prop := CallH prog 44 [a1] H (fun v H2 => (fun r2 => K r2 H2) v)
abbrev patch_paths.num : FuncId := 45
def patch_paths.C (lp1 : Option Addr) (ll2 : Nat) (lc3 : Nat) (H : Hp) (K : Bool → Hp → Prop) : Prop := CallH prog 45 [.slice lp1 ll2 lc3] H (fun v H2 => liftB v fun r4 => K r4 H2)
abbrev patch_deps.num : FuncId := 46
def patch_deps.C (p1 : Int) (pp2 : Option Addr) (pl3 : Nat) (pc4 : Nat) (pp5 : Option Addr) (pl6 : Nat) (pc7 : Nat) (pp8 : Option Addr) (pl9 : Nat) (pc10 : Nat) (pp11 : Option Addr) (pl12 : Nat) (pc13 : Nat) (H : Hp) (K : Bool → Hp → Prop) : Prop := CallH prog 46 [.agg ⟨[.int .u32 p1, .slice pp2 pl3 pc4, .slice pp5 pl6 pc7, .slice pp8 pl9 pc10, .slice pp11 pl12 pc13]⟩] H (fun v H2 => liftB v fun r14 => K r14 H2)
abbrev slices_ContainsFunc_string_string.num : FuncId := 47
def slices_ContainsFunc_string_string.C (sp1 : Option Addr) (sl2 : Nat) (sc3 : Nat) (f4 : Value) (H : Hp) (K : Bool → Hp → Prop) : Prop := CallH prog 47 [.slice sp1 sl2 sc3, f4] H (fun v H2 => liftB v fun r5 => K r5 H2)
abbrev patch_Is_1.num : FuncId := 48
def patch_Is_1.C (s1 : ByteArray) (cap2 : Nat) (H : Hp) (K : Bool → Hp → Prop) : Prop := CallH prog 48 [.string s1, .pointer (some ⟨cap2, 0, none⟩)] H (fun v H2 => liftB v fun r3 => K r3 H2)
abbrev slices_Contains_string_string.num : FuncId := 49
def slices_Contains_string_string.C (sp1 : Option Addr) (sl2 : Nat) (sc3 : Nat) (v4 : ByteArray) (H : Hp) (K : Bool → Hp → Prop) : Prop := CallH prog 49 [.slice sp1 sl2 sc3, .string v4] H (fun v H2 => liftB v fun r5 => K r5 H2)
abbrev patch_IsPath.num : FuncId := 50
def patch_IsPath.C (s1 : ByteArray) (H : Hp) (K : Bool → Hp → Prop) : Prop := CallH prog 50 [.string s1] H (fun v H2 => liftB v fun r2 => K r2 H2)
abbrev patch_isHunk.num : FuncId := 51
def patch_isHunk.C (id1 : Int) (h2 : ByteArray) (hp3 : Option Addr) (hl4 : Nat) (hc5 : Nat) (hp6 : Option Addr) (hl7 : Nat) (hc8 : Nat) (hp9 : Option Addr) (hl10 : Nat) (hc11 : Nat) (fromq12 : Int) (H : Hp) (K : Bool → Hp → Prop) : Prop := CallH prog 51 [.int .u32 id1, .agg ⟨[.string h2, .slice hp3 hl4 hc5, .slice hp6 hl7 hc8, .slice hp9 hl10 hc11]⟩, .int .i64 fromq12] H (fun v H2 => liftB v fun r13 => K r13 H2)
abbrev slices_Equal_string_string.num : FuncId := 52
def slices_Equal_string_string.C (sp1 : Option Addr) (sl2 : Nat) (sc3 : Nat) (sp4 : Option Addr) (sl5 : Nat) (sc6 : Nat) (H : Hp) (K : Bool → Hp → Prop) : Prop := CallH prog 52 [.slice sp1 sl2 sc3, .slice sp4 sl5 sc6] H (fun v H2 => liftB v fun r7 => K r7 H2)
abbrev slices_EqualFunc_api_Hunk_api_Hunk_api_Hunk_api_Hunk.num : FuncId := 53
def slices_EqualFunc_api_Hunk_api_Hunk_api_Hunk_api_Hunk.C (sp1 : Option Addr) (sl2 : Nat) (sc3 : Nat) (sp4 : Option Addr) (sl5 : Nat) (sc6 : Nat) (eq7 : Value) (H : Hp) (K : Bool → Hp → Prop) : Prop := CallH prog 53 [.slice sp1 sl2 sc3, .slice sp4 sl5 sc6, eq7] H (fun v H2 => liftB v fun r8 => K r8 H2)
abbrev patch_sameHunk.num : FuncId := 54
def patch_sameHunk.C (a1 : ByteArray) (ap2 : Option Addr) (al3 : Nat) (ac4 : Nat) (ap5 : Option Addr) (al6 : Nat) (ac7 : Nat) (ap8 : Option Addr) (al9 : Nat) (ac10 : Nat) (bq11 : ByteArray) (bp12 : Option Addr) (bl13 : Nat) (bcq14 : Nat) (bp15 : Option Addr) (bl16 : Nat) (bcq17 : Nat) (bp18 : Option Addr) (bl19 : Nat) (bcq20 : Nat) (H : Hp) (K : Bool → Hp → Prop) : Prop := CallH prog 54 [.agg ⟨[.string a1, .slice ap2 al3 ac4, .slice ap5 al6 ac7, .slice ap8 al9 ac10]⟩, .agg ⟨[.string bq11, .slice bp12 bl13 bcq14, .slice bp15 bl16 bcq17, .slice bp18 bl19 bcq20]⟩] H (fun v H2 => liftB v fun r21 => K r21 H2)
abbrev slices_ContainsFunc_uint32_uint32.num : FuncId := 55
def slices_ContainsFunc_uint32_uint32.C (sp1 : Option Addr) (sl2 : Nat) (sc3 : Nat) (f4 : Value) (H : Hp) (K : Bool → Hp → Prop) : Prop := CallH prog 55 [.slice sp1 sl2 sc3, f4] H (fun v H2 => liftB v fun r5 => K r5 H2)
abbrev store_Store_has_1.num : FuncId := 56
def store_Store_has_1.C (id1 : Int) (cap2 : Nat) (H : Hp) (K : Bool → Hp → Prop) : Prop := CallH prog 56 [.int .u32 id1, .pointer (some ⟨cap2, 0, none⟩)] H (fun v H2 => liftB v fun r3 => K r3 H2)
abbrev slices_Clone_uint32_uint32.num : FuncId := 57
def slices_Clone_uint32_uint32.C (sp1 : Option Addr) (sl2 : Nat) (sc3 : Nat) (H : Hp) (K : Option Addr → Nat → Nat → Hp → Prop) : Prop := CallH prog 57 [.slice sp1 sl2 sc3] H (fun v H2 => liftL v fun rp4 rl5 rc6 => K rp4 rl5 rc6 H2)
abbrev slices_Clone_string_string.num : FuncId := 58
def slices_Clone_string_string.C (sp1 : Option Addr) (sl2 : Nat) (sc3 : Nat) (H : Hp) (K : Option Addr → Nat → Nat → Hp → Prop) : Prop := CallH prog 58 [.slice sp1 sl2 sc3] H (fun v H2 => liftL v fun rp4 rl5 rc6 => K rp4 rl5 rc6 H2)
abbrev slices_Clone_api_Hunk_api_Hunk.num : FuncId := 59
def slices_Clone_api_Hunk_api_Hunk.C (sp1 : Option Addr) (sl2 : Nat) (sc3 : Nat) (H : Hp) (K : Option Addr → Nat → Nat → Hp → Prop) : Prop := CallH prog 59 [.slice sp1 sl2 sc3] H (fun v H2 => liftL v fun rp4 rl5 rc6 => K rp4 rl5 rc6 H2)
abbrev slices_Clone_api_Edge_api_Edge.num : FuncId := 60
def slices_Clone_api_Edge_api_Edge.C (sp1 : Option Addr) (sl2 : Nat) (sc3 : Nat) (H : Hp) (K : Option Addr → Nat → Nat → Hp → Prop) : Prop := CallH prog 60 [.slice sp1 sl2 sc3] H (fun v H2 => liftL v fun rp4 rl5 rc6 => K rp4 rl5 rc6 H2)
abbrev slices_Clone_api_LineID_api_LineID.num : FuncId := 61
def slices_Clone_api_LineID_api_LineID.C (sp1 : Option Addr) (sl2 : Nat) (sc3 : Nat) (H : Hp) (K : Option Addr → Nat → Nat → Hp → Prop) : Prop := CallH prog 61 [.slice sp1 sl2 sc3] H (fun v H2 => liftL v fun rp4 rl5 rc6 => K rp4 rl5 rc6 H2)
abbrev centoref12_Rising.num : FuncId := 62
def centoref12_Rising.C (lp1 : Option Addr) (ll2 : Nat) (lc3 : Nat) (H : Hp) (K : Bool → Hp → Prop) : Prop := CallH prog 62 [.slice lp1 ll2 lc3] H (fun v H2 => liftB v fun r4 => K r4 H2)
abbrev centoref12_paths.num : FuncId := 63
def centoref12_paths.C (lp1 : Option Addr) (ll2 : Nat) (lc3 : Nat) (H : Hp) (K : Bool → Hp → Prop) : Prop := CallH prog 63 [.slice lp1 ll2 lc3] H (fun v H2 => liftB v fun r4 => K r4 H2)
abbrev centoref12_In.num : FuncId := 64
def centoref12_In.C (lp1 : Option Addr) (ll2 : Nat) (lc3 : Nat) (s4 : ByteArray) (H : Hp) (K : Bool → Hp → Prop) : Prop := CallH prog 64 [.slice lp1 ll2 lc3, .string s4] H (fun v H2 => liftB v fun r5 => K r5 H2)
abbrev centoref12_hunk.num : FuncId := 65
def centoref12_hunk.C (h1 : ByteArray) (hp2 : Option Addr) (hl3 : Nat) (hc4 : Nat) (hp5 : Option Addr) (hl6 : Nat) (hc7 : Nat) (hp8 : Option Addr) (hl9 : Nat) (hc10 : Nat) (id11 : Int) (fromq12 : Int) (H : Hp) (K : Bool → Hp → Prop) : Prop := CallH prog 65 [.agg ⟨[.string h1, .slice hp2 hl3 hc4, .slice hp5 hl6 hc7, .slice hp8 hl9 hc10]⟩, .int .u32 id11, .int .i64 fromq12] H (fun v H2 => liftB v fun r13 => K r13 H2)
abbrev centoref12_Needs.num : FuncId := 66
def centoref12_Needs.C (p1 : Int) (pp2 : Option Addr) (pl3 : Nat) (pc4 : Nat) (pp5 : Option Addr) (pl6 : Nat) (pc7 : Nat) (pp8 : Option Addr) (pl9 : Nat) (pc10 : Nat) (pp11 : Option Addr) (pl12 : Nat) (pc13 : Nat) (H : Hp) (K : Option Addr → Nat → Nat → Hp → Prop) : Prop := CallH prog 66 [.agg ⟨[.int .u32 p1, .slice pp2 pl3 pc4, .slice pp5 pl6 pc7, .slice pp8 pl9 pc10, .slice pp11 pl12 pc13]⟩] H (fun v H2 => liftL v fun rp14 rl15 rc16 => K rp14 rl15 rc16 H2)
abbrev store_Store_needed_1.num : FuncId := 67
def store_Store_needed_1.I (cap1 : Nat) (cap2 : Nat) (H : Hp) (G : Int → Hp → (Al → Hp → Prop) → Prop) (K : Al → Hp → Prop) : Prop := ITER prog 67 [] [.pointer (some ⟨cap1, 0, none⟩), .pointer (some ⟨cap2, 0, none⟩)] H (fun vals H Kb => d1 vals fun w0 => liftI .u32 w0 fun z3 => G z3 H Kb) K
abbrev slices_pdqsortOrdered_uint32.num : FuncId := 68
def slices_pdqsortOrdered_uint32.C (datap1 : Option Addr) (datal2 : Nat) (datac3 : Nat) (a4 : Int) (bq5 : Int) (limit6 : Int) (H : Hp) (K : Hp → Prop) : Prop := CallH prog 68 [.slice datap1 datal2 datac3, .int .i64 a4, .int .i64 bq5, .int .i64 limit6] H (fun v H2 => tupV v fun vs => d0 vs (K H2))
abbrev math_bits_Len.num : FuncId := 69
def math_bits_Len.C (x1 : Int) (H : Hp) (K : Int → Hp → Prop) : Prop := CallH prog 69 [.int .u64 x1] H (fun v H2 => liftI .i64 v fun r2 => K r2 H2)
abbrev slices_Compact_uint32_uint32.num : FuncId := 70
def slices_Compact_uint32_uint32.C (sp1 : Option Addr) (sl2 : Nat) (sc3 : Nat) (H : Hp) (K : Option Addr → Nat → Nat → Hp → Prop) : Prop := CallH prog 70 [.slice sp1 sl2 sc3] H (fun v H2 => liftL v fun rp4 rl5 rc6 => K rp4 rl5 rc6 H2)
abbrev slices_Collect_uint32.num : FuncId := 71
def slices_Collect_uint32.C (seq1 : Value) (H : Hp) (K : Option Addr → Nat → Nat → Hp → Prop) : Prop := CallH prog 71 [seq1] H (fun v H2 => liftL v fun rp2 rl3 rc4 => K rp2 rl3 rc4 H2)
abbrev maps_Keys_map_uint32_api_Patch_uint32_api_Patch_1.num : FuncId := 72
def maps_Keys_map_uint32_api_Patch_uint32_api_Patch_1.I (cap1 : Nat) (H : Hp) (G : Int → Hp → (Al → Hp → Prop) → Prop) (K : Al → Hp → Prop) : Prop := ITER prog 72 [] [.pointer (some ⟨cap1, 0, none⟩)] H (fun vals H Kb => d1 vals fun w0 => liftI .u32 w0 fun z2 => G z2 H Kb) K
abbrev slices_IndexFunc_uint32_uint32.num : FuncId := 73
def slices_IndexFunc_uint32_uint32.C (sp1 : Option Addr) (sl2 : Nat) (sc3 : Nat) (f4 : Value) (H : Hp) (K : Int → Hp → Prop) : Prop := CallH prog 73 [.slice sp1 sl2 sc3, f4] H (fun v H2 => liftI .i64 v fun r5 => K r5 H2)
abbrev slices_Index_uint32_uint32.num : FuncId := 74
def slices_Index_uint32_uint32.C (sp1 : Option Addr) (sl2 : Nat) (sc3 : Nat) (v4 : Int) (H : Hp) (K : Int → Hp → Prop) : Prop := CallH prog 74 [.slice sp1 sl2 sc3, .int .u32 v4] H (fun v H2 => liftI .i64 v fun r5 => K r5 H2)
abbrev patch_rises_string.num : FuncId := 75
def patch_rises_string.C (lp1 : Option Addr) (ll2 : Nat) (lc3 : Nat) (compare4 : Value) (H : Hp) (K : Bool → Hp → Prop) : Prop := CallH prog 75 [.slice lp1 ll2 lc3, compare4] H (fun v H2 => liftB v fun r5 => K r5 H2)
abbrev cmp_Compare_string.num : FuncId := 76
def cmp_Compare_string.C (x1 : ByteArray) (y2 : ByteArray) (H : Hp) (K : Int → Hp → Prop) : Prop := CallH prog 76 [.string x1, .string y2] H (fun v H2 => liftI .i64 v fun r3 => K r3 H2)
abbrev patch_paths_1.num : FuncId := 77
def patch_paths_1.C (s1 : ByteArray) (H : Hp) (K : Bool → Hp → Prop) : Prop := CallH prog 77 [.string s1] H (fun v H2 => liftB v fun r2 => K r2 H2)
abbrev patch_rises_uint32.num : FuncId := 78
def patch_rises_uint32.C (lp1 : Option Addr) (ll2 : Nat) (lc3 : Nat) (compare4 : Value) (H : Hp) (K : Bool → Hp → Prop) : Prop := CallH prog 78 [.slice lp1 ll2 lc3, compare4] H (fun v H2 => liftB v fun r5 => K r5 H2)
abbrev cmp_Compare_uint32.num : FuncId := 79
def cmp_Compare_uint32.C (x1 : Int) (y2 : Int) (H : Hp) (K : Int → Hp → Prop) : Prop := CallH prog 79 [.int .u32 x1, .int .u32 y2] H (fun v H2 => liftI .i64 v fun r3 => K r3 H2)
abbrev patch_Needs.num : FuncId := 80
def patch_Needs.C (p1 : Int) (pp2 : Option Addr) (pl3 : Nat) (pc4 : Nat) (pp5 : Option Addr) (pl6 : Nat) (pc7 : Nat) (pp8 : Option Addr) (pl9 : Nat) (pc10 : Nat) (pp11 : Option Addr) (pl12 : Nat) (pc13 : Nat) (H : Hp) (K : Option Addr → Nat → Nat → Hp → Prop) : Prop := CallH prog 80 [.agg ⟨[.int .u32 p1, .slice pp2 pl3 pc4, .slice pp5 pl6 pc7, .slice pp8 pl9 pc10, .slice pp11 pl12 pc13]⟩] H (fun v H2 => liftL v fun rp14 rl15 rc16 => K rp14 rl15 rc16 H2)
abbrev patch_deps_1.num : FuncId := 81
def patch_deps_1.C (id1 : Int) (cap2 : Nat) (H : Hp) (K : Bool → Hp → Prop) : Prop := CallH prog 81 [.int .u32 id1, .pointer (some ⟨cap2, 0, none⟩)] H (fun v H2 => liftB v fun r3 => K r3 H2)
abbrev slices_IndexFunc_string_string.num : FuncId := 82
def slices_IndexFunc_string_string.C (sp1 : Option Addr) (sl2 : Nat) (sc3 : Nat) (f4 : Value) (H : Hp) (K : Int → Hp → Prop) : Prop := CallH prog 82 [.slice sp1 sl2 sc3, f4] H (fun v H2 => liftI .i64 v fun r5 => K r5 H2)
abbrev slices_Index_string_string.num : FuncId := 83
def slices_Index_string_string.C (sp1 : Option Addr) (sl2 : Nat) (sc3 : Nat) (v4 : ByteArray) (H : Hp) (K : Int → Hp → Prop) : Prop := CallH prog 83 [.slice sp1 sl2 sc3, .string v4] H (fun v H2 => liftI .i64 v fun r5 => K r5 H2)
abbrev patch_isHunk_1.num : FuncId := 84
def patch_isHunk_1.C (l1 : Int) (l2 : Int) (cap3 : Nat) (cap4 : Nat) (cap5 : Nat) (H : Hp) (K : Bool → Hp → Prop) : Prop := CallH prog 84 [.agg ⟨[.int .u32 l1, .int .i64 l2]⟩, .pointer (some ⟨cap3, 0, none⟩), .pointer (some ⟨cap4, 0, none⟩), .pointer (some ⟨cap5, 0, none⟩)] H (fun v H2 => liftB v fun r6 => K r6 H2)
abbrev patch_isLine.num : FuncId := 85
def patch_isLine.C (s1 : ByteArray) (H : Hp) (K : Bool → Hp → Prop) : Prop := CallH prog 85 [.string s1] H (fun v H2 => liftB v fun r2 => K r2 H2)
abbrev patch_rises_api_Edge.num : FuncId := 86
def patch_rises_api_Edge.C (lp1 : Option Addr) (ll2 : Nat) (lc3 : Nat) (compare4 : Value) (H : Hp) (K : Bool → Hp → Prop) : Prop := CallH prog 86 [.slice lp1 ll2 lc3, compare4] H (fun v H2 => liftB v fun r5 => K r5 H2)
abbrev patch_CompareEdges.num : FuncId := 87
def patch_CompareEdges.C (a1 : Int) (a2 : Int) (a3 : Int) (a4 : Int) (bq5 : Int) (bq6 : Int) (bq7 : Int) (bq8 : Int) (H : Hp) (K : Int → Hp → Prop) : Prop := CallH prog 87 [.agg ⟨[.int .u32 a1, .int .i64 a2, .int .u32 a3, .int .i64 a4]⟩, .agg ⟨[.int .u32 bq5, .int .i64 bq6, .int .u32 bq7, .int .i64 bq8]⟩] H (fun v H2 => liftI .i64 v fun r9 => K r9 H2)
abbrev patch_rises_api_LineID.num : FuncId := 88
def patch_rises_api_LineID.C (lp1 : Option Addr) (ll2 : Nat) (lc3 : Nat) (compare4 : Value) (H : Hp) (K : Bool → Hp → Prop) : Prop := CallH prog 88 [.slice lp1 ll2 lc3, compare4] H (fun v H2 => liftB v fun r5 => K r5 H2)
abbrev patch_Compare.num : FuncId := 89
def patch_Compare.C (a1 : Int) (a2 : Int) (bq3 : Int) (bq4 : Int) (H : Hp) (K : Int → Hp → Prop) : Prop := CallH prog 89 [.agg ⟨[.int .u32 a1, .int .i64 a2]⟩, .agg ⟨[.int .u32 bq3, .int .i64 bq4]⟩] H (fun v H2 => liftI .i64 v fun r5 => K r5 H2)
abbrev slices_Equal_api_Edge_api_Edge.num : FuncId := 90
def slices_Equal_api_Edge_api_Edge.C (sp1 : Option Addr) (sl2 : Nat) (sc3 : Nat) (sp4 : Option Addr) (sl5 : Nat) (sc6 : Nat) (H : Hp) (K : Bool → Hp → Prop) : Prop := CallH prog 90 [.slice sp1 sl2 sc3, .slice sp4 sl5 sc6] H (fun v H2 => liftB v fun r7 => K r7 H2)
abbrev slices_Equal_api_LineID_api_LineID.num : FuncId := 91
def slices_Equal_api_LineID_api_LineID.C (sp1 : Option Addr) (sl2 : Nat) (sc3 : Nat) (sp4 : Option Addr) (sl5 : Nat) (sc6 : Nat) (H : Hp) (K : Bool → Hp → Prop) : Prop := CallH prog 91 [.slice sp1 sl2 sc3, .slice sp4 sl5 sc6] H (fun v H2 => liftB v fun r7 => K r7 H2)
abbrev centoref12_IsPath.num : FuncId := 92
def centoref12_IsPath.C (s1 : ByteArray) (H : Hp) (K : Bool → Hp → Prop) : Prop := CallH prog 92 [.string s1] H (fun v H2 => liftB v fun r2 => K r2 H2)
abbrev centoref10_Lines.num : FuncId := 93
def centoref10_Lines.C (s1 : ByteArray) (H : Hp) (K : Option Addr → Nat → Nat → Hp → Prop) : Prop := CallH prog 93 [.string s1] H (fun v H2 => liftL v fun rp2 rl3 rc4 => K rp2 rl3 rc4 H2)
abbrev centoref12_named.num : FuncId := 94
def centoref12_named.C (x1 : Int) (x2 : Int) (id3 : Int) (a4 : Int) (bq5 : Int) (H : Hp) (K : Bool → Hp → Prop) : Prop := CallH prog 94 [.agg ⟨[.int .u32 x1, .int .i64 x2]⟩, .int .u32 id3, .int .i64 a4, .int .i64 bq5] H (fun v H2 => liftB v fun r6 => K r6 H2)
abbrev centoref12_Less.num : FuncId := 95
def centoref12_Less.C (a1 : Int) (a2 : Int) (bq3 : Int) (bq4 : Int) (H : Hp) (K : Bool → Hp → Prop) : Prop := CallH prog 95 [.agg ⟨[.int .u32 a1, .int .i64 a2]⟩, .agg ⟨[.int .u32 bq3, .int .i64 bq4]⟩] H (fun v H2 => liftB v fun r5 => K r5 H2)
abbrev slices_insertionSortOrdered_uint32.num : FuncId := 96
def slices_insertionSortOrdered_uint32.C (datap1 : Option Addr) (datal2 : Nat) (datac3 : Nat) (a4 : Int) (bq5 : Int) (H : Hp) (K : Hp → Prop) : Prop := CallH prog 96 [.slice datap1 datal2 datac3, .int .i64 a4, .int .i64 bq5] H (fun v H2 => tupV v fun vs => d0 vs (K H2))
abbrev slices_heapSortOrdered_uint32.num : FuncId := 97
def slices_heapSortOrdered_uint32.C (datap1 : Option Addr) (datal2 : Nat) (datac3 : Nat) (a4 : Int) (bq5 : Int) (H : Hp) (K : Hp → Prop) : Prop := CallH prog 97 [.slice datap1 datal2 datac3, .int .i64 a4, .int .i64 bq5] H (fun v H2 => tupV v fun vs => d0 vs (K H2))
abbrev slices_breakPatternsOrdered_uint32.num : FuncId := 98
def slices_breakPatternsOrdered_uint32.C (datap1 : Option Addr) (datal2 : Nat) (datac3 : Nat) (a4 : Int) (bq5 : Int) (H : Hp) (K : Hp → Prop) : Prop := CallH prog 98 [.slice datap1 datal2 datac3, .int .i64 a4, .int .i64 bq5] H (fun v H2 => tupV v fun vs => d0 vs (K H2))
abbrev slices_choosePivotOrdered_uint32.num : FuncId := 99
def slices_choosePivotOrdered_uint32.C (datap1 : Option Addr) (datal2 : Nat) (datac3 : Nat) (a4 : Int) (bq5 : Int) (H : Hp) (K : Int → Int → Hp → Prop) : Prop := CallH prog 99 [.slice datap1 datal2 datac3, .int .i64 a4, .int .i64 bq5] H (fun v H2 => tupV v fun vs => d2 vs fun wv0 wv1 => liftI .i64 wv0 fun r6 => liftI .i64 wv1 fun r7 => K r6 r7 H2)
abbrev slices_reverseRangeOrdered_uint32.num : FuncId := 100
def slices_reverseRangeOrdered_uint32.C (datap1 : Option Addr) (datal2 : Nat) (datac3 : Nat) (a4 : Int) (bq5 : Int) (H : Hp) (K : Hp → Prop) : Prop := CallH prog 100 [.slice datap1 datal2 datac3, .int .i64 a4, .int .i64 bq5] H (fun v H2 => tupV v fun vs => d0 vs (K H2))
abbrev slices_partialInsertionSortOrdered_uint32.num : FuncId := 101
def slices_partialInsertionSortOrdered_uint32.C (datap1 : Option Addr) (datal2 : Nat) (datac3 : Nat) (a4 : Int) (bq5 : Int) (H : Hp) (K : Bool → Hp → Prop) : Prop := CallH prog 101 [.slice datap1 datal2 datac3, .int .i64 a4, .int .i64 bq5] H (fun v H2 => liftB v fun r6 => K r6 H2)
abbrev cmp_Less_uint32.num : FuncId := 102
def cmp_Less_uint32.C (x1 : Int) (y2 : Int) (H : Hp) (K : Bool → Hp → Prop) : Prop := CallH prog 102 [.int .u32 x1, .int .u32 y2] H (fun v H2 => liftB v fun r3 => K r3 H2)
abbrev slices_partitionEqualOrdered_uint32.num : FuncId := 103
def slices_partitionEqualOrdered_uint32.C (datap1 : Option Addr) (datal2 : Nat) (datac3 : Nat) (a4 : Int) (bq5 : Int) (pivot6 : Int) (H : Hp) (K : Int → Hp → Prop) : Prop := CallH prog 103 [.slice datap1 datal2 datac3, .int .i64 a4, .int .i64 bq5, .int .i64 pivot6] H (fun v H2 => liftI .i64 v fun r7 => K r7 H2)
abbrev slices_partitionOrdered_uint32.num : FuncId := 104
def slices_partitionOrdered_uint32.C (datap1 : Option Addr) (datal2 : Nat) (datac3 : Nat) (a4 : Int) (bq5 : Int) (pivot6 : Int) (H : Hp) (K : Int → Bool → Hp → Prop) : Prop := CallH prog 104 [.slice datap1 datal2 datac3, .int .i64 a4, .int .i64 bq5, .int .i64 pivot6] H (fun v H2 => tupV v fun vs => d2 vs fun wv0 wv1 => liftI .i64 wv0 fun r7 => liftB wv1 fun r8 => K r7 r8 H2)
abbrev math_bits_Len64.num : FuncId := 106
def math_bits_Len64.C (x1 : Int) (H : Hp) (K : Int → Hp → Prop) : Prop := CallH prog 106 [.int .u64 x1] H (fun v H2 => liftI .i64 v fun r2 => K r2 H2)
abbrev slices_AppendSeq_uint32_uint32.num : FuncId := 107
def slices_AppendSeq_uint32_uint32.C (sp1 : Option Addr) (sl2 : Nat) (sc3 : Nat) (seq4 : Value) (H : Hp) (K : Option Addr → Nat → Nat → Hp → Prop) : Prop := CallH prog 107 [.slice sp1 sl2 sc3, seq4] H (fun v H2 => liftL v fun rp5 rl6 rc7 => K rp5 rl6 rc7 H2)
abbrev cmp_isNaN_string.num : FuncId := 108
def cmp_isNaN_string.C (x1 : ByteArray) (H : Hp) (K : Bool → Hp → Prop) : Prop := CallH prog 108 [.string x1] H (fun v H2 => liftB v fun r2 => K r2 H2)
abbrev cmp_isNaN_uint32.num : FuncId := 109
def cmp_isNaN_uint32.C (x1 : Int) (H : Hp) (K : Bool → Hp → Prop) : Prop := CallH prog 109 [.int .u32 x1] H (fun v H2 => liftB v fun r2 => K r2 H2)
abbrev patch_Needs_1.num : FuncId := 110
def patch_Needs_1.C (id1 : Int) (cap2 : Nat) (H : Hp) (K : Bool → Hp → Prop) : Prop := CallH prog 110 [.int .u32 id1, .pointer (some ⟨cap2, 0, none⟩)] H (fun v H2 => liftB v fun r3 => K r3 H2)
abbrev cmp_Or_int.num : FuncId := 111
def cmp_Or_int.C (valsp1 : Option Addr) (valsl2 : Nat) (valsc3 : Nat) (H : Hp) (K : Int → Hp → Prop) : Prop := CallH prog 111 [.slice valsp1 valsl2 valsc3] H (fun v H2 => liftI .i64 v fun r4 => K r4 H2)
abbrev cmp_Compare_int.num : FuncId := 112
def cmp_Compare_int.C (x1 : Int) (y2 : Int) (H : Hp) (K : Int → Hp → Prop) : Prop := CallH prog 112 [.int .i64 x1, .int .i64 y2] H (fun v H2 => liftI .i64 v fun r3 => K r3 H2)
abbrev slices_siftDownOrdered_uint32.num : FuncId := 113
def slices_siftDownOrdered_uint32.C (datap1 : Option Addr) (datal2 : Nat) (datac3 : Nat) (lo4 : Int) (hi5 : Int) (first6 : Int) (H : Hp) (K : Hp → Prop) : Prop := CallH prog 113 [.slice datap1 datal2 datac3, .int .i64 lo4, .int .i64 hi5, .int .i64 first6] H (fun v H2 => tupV v fun vs => d0 vs (K H2))
abbrev slices_nextPowerOfTwo.num : FuncId := 114
def slices_nextPowerOfTwo.C (length1 : Int) (H : Hp) (K : Int → Hp → Prop) : Prop := CallH prog 114 [.int .i64 length1] H (fun v H2 => liftI .u64 v fun r2 => K r2 H2)
abbrev slices_xorshift_Next.num : FuncId := 115
def slices_xorshift_Next.C (r1 : Option Addr) (H : Hp) (K : Int → Hp → Prop) : Prop := CallH prog 115 [.pointer r1] H (fun v H2 => liftI .u64 v fun r2 => K r2 H2)
abbrev slices_medianAdjacentOrdered_uint32.num : FuncId := 116
def slices_medianAdjacentOrdered_uint32.C (datap1 : Option Addr) (datal2 : Nat) (datac3 : Nat) (a4 : Int) (swaps5 : Option Addr) (H : Hp) (K : Int → Hp → Prop) : Prop := CallH prog 116 [.slice datap1 datal2 datac3, .int .i64 a4, .pointer swaps5] H (fun v H2 => liftI .i64 v fun r6 => K r6 H2)
abbrev slices_medianOrdered_uint32.num : FuncId := 117
def slices_medianOrdered_uint32.C (datap1 : Option Addr) (datal2 : Nat) (datac3 : Nat) (a4 : Int) (bq5 : Int) (c6 : Int) (swaps7 : Option Addr) (H : Hp) (K : Int → Hp → Prop) : Prop := CallH prog 117 [.slice datap1 datal2 datac3, .int .i64 a4, .int .i64 bq5, .int .i64 c6, .pointer swaps7] H (fun v H2 => liftI .i64 v fun r8 => K r8 H2)
abbrev cmp_isNaN_int.num : FuncId := 118
def cmp_isNaN_int.C (x1 : Int) (H : Hp) (K : Bool → Hp → Prop) : Prop := CallH prog 118 [.int .i64 x1] H (fun v H2 => liftB v fun r2 => K r2 H2)
abbrev slices_order2Ordered_uint32.num : FuncId := 119
def slices_order2Ordered_uint32.C (datap1 : Option Addr) (datal2 : Nat) (datac3 : Nat) (a4 : Int) (bq5 : Int) (swaps6 : Option Addr) (H : Hp) (K : Int → Int → Hp → Prop) : Prop := CallH prog 119 [.slice datap1 datal2 datac3, .int .i64 a4, .int .i64 bq5, .pointer swaps6] H (fun v H2 => tupV v fun vs => d2 vs fun wv0 wv1 => liftI .i64 wv0 fun r7 => liftI .i64 wv1 fun r8 => K r7 r8 H2)
end
end Go.Proofs.YtbpbgkpkkklipaaGreat
