/- The reckoner is sound: regions, code. -/
import Derived.Test.YteijgmmjgbgffaaDoorVcCode
namespace Go.V
set_option linter.unusedSectionVars false
variable [Sp]
section
variable {P : Program} {T : Tab} {A : Ann} {yl : Option YG} {y : Value} {n nn : Nat} {B C : Nat} {Inv : Al → World → Prop} {ro : Option (Nat × Loop)}

/-- The frames agree but at some slots. -/
def Agr (ms : List Nat) (fr fr' : Fr) : Prop := ∀ i, i ∉ ms → fr'.get i = fr.get i

theorem Agr.refl (ms : List Nat) (fr : Fr) : Agr ms fr fr := fun _ _ => rfl
theorem Agr.trans {ms : List Nat} {a b c : Fr} (h : Agr ms a b) (h' : Agr ms b c) : Agr ms a c := fun i hi => (h' i hi).trans (h i hi)
theorem Agr.mono {ms ms' : List Nat} {a b : Fr} (h : Agr ms a b) (hm : ∀ i, i ∈ ms → i ∈ ms') : Agr ms' a b := fun i hi => h i fun e => hi (hm i e)
theorem Agr.cons {ms : List Nat} {fr : Fr} {d : Nat} (hd : d ∈ ms) (x : AV) : Agr ms fr ((d, x) :: fr) := fun i hi => by
  have hne : Nat.beq d i = false := by
    cases h : Nat.beq d i with
    | false => rfl
    | true => exact absurd (Nat.eq_of_beq_eq_true h ▸ hd) hi
  simp [Fr.get, hne]

theorem dst_mods {ops : Array Oper} {j s : Nat} (h : (ops[j]?).bind (·.dst) = some s) : s ∈ opsMods ops.toList := by
  cases ho : ops[j]? with
  | none => rw [ho] at h; cases h
  | some o =>
    rw [ho] at h
    exact List.mem_filterMap.2 ⟨o, Array.mem_toList_iff.2 (Array.mem_of_getElem? ho), h⟩

theorem setD_agr {ops : Array Oper} {i : Nat} {o : Oper} (ho : ops[i]? = some o) {fr : Fr} {x : AV} {K : Fr → Prop} {a : Act} (h : setD n o.dst fr x K) (hS : Sat y n fr a) :
    ∃ fr', Sat y n fr' (a.put o.dst (avV y x)) ∧ Agr (opsMods ops.toList) fr fr' ∧ K fr' := by
  cases hd : o.dst with
  | none => rw [hd] at h; exact ⟨fr, hS, Agr.refl _ _, h⟩
  | some d =>
    rw [hd] at h
    simp only [setD] at h
    cases hb : Nat.blt d n with
    | false => rw [hb] at h; exact h.elim
    | true =>
      rw [hb] at h
      exact ⟨_, hS.cons (by simpa [Nat.blt_eq] using hb) x _ rfl, Agr.cons (dst_mods (j := i) (by rw [ho]; exact hd)) x, h⟩

theorem wanted_of {ops : Array Oper} {o : Oper} {a : Act} {j : Nat} {want : Bool} (hg : o.guard = some (j, want)) {s : Nat} (hs : (ops[j]?).bind (·.dst) = some s) {b : Bool} (hb : a.tmps[s]? = some (.bool b)) :
    Region.wanted o (yielded ops a.tmps) = (b == want) := by
  simp only [Region.wanted, hg, yielded, hs, Option.bind_some, hb]
  cases b <;> cases want <;> rfl

theorem wanted_not {ops : Array Oper} {o : Oper} {a : Act} {j : Nat} {want : Bool} (hg : o.guard = some (j, want)) {s : Nat} (hs : (ops[j]?).bind (·.dst) = some s) {vs : Array Value} (hb : a.tmps[s]? = some (.tuple vs)) :
    Region.wanted o (yielded ops a.tmps) = false := by
  simp [Region.wanted, hg, yielded, hs, hb]

/-- One operation at the head of a list, as 'vcOps' has it: it runs, or it is passed over. -/
theorem vcOps_step {ops : Array Oper} {KK : Fr → Hp → Al → Prop} {i : Nat} {rest : List Nat} {fr : Fr} {H : Hp} {al : Al} {a : Act}
    (h : vcOps P T yl n ops KK (i :: rest) fr H al) (hS : Sat y n fr a) :
    ∃ o, ops[i]? = some o ∧ ∃ fr', Sat y n fr' a ∧ Agr (opsMods ops.toList) fr fr' ∧
      ((Region.wanted o (yielded ops a.tmps) = true ∧ vcOp P T yl o fr' H al fun x H' al' => setD n o.dst fr' x fun fr'' => vcOps P T yl n ops KK rest fr'' H' al') ∨
       (Region.wanted o (yielded ops a.tmps) = false ∧ setD n o.dst fr' (.v undef) fun fr'' => vcOps P T yl n ops KK rest fr'' H al)) := by
  simp only [vcOps] at h
  split at h <;> try exact h.elim
  rename_i o ho
  refine ⟨o, ho, ?_⟩
  split at h
  · rename_i hg
    exact ⟨fr, hS, Agr.refl _ _, .inl ⟨by simp [Region.wanted, hg], h⟩⟩
  · rename_i j want hg
    split at h <;> try exact h.elim
    rename_i s hs
    split at h <;> try exact h.elim
    · rename_i b hb
      have hcell := hS.2 s _ hb
      simp only [avV] at hcell
      have hw := wanted_of hg hs hcell
      rcases bc_elim h with ⟨rfl, h⟩ | ⟨rfl, h⟩
      · cases want with
        | true => exact ⟨_, hS.lit hb, Agr.cons (dst_mods hs) _, .inl ⟨by rw [hw]; rfl, h⟩⟩
        | false => exact ⟨_, hS.lit hb, Agr.cons (dst_mods hs) _, .inr ⟨by rw [hw]; rfl, h⟩⟩
      · cases want with
        | true => exact ⟨_, hS.lit hb, Agr.cons (dst_mods hs) _, .inr ⟨by rw [hw]; rfl, h⟩⟩
        | false => exact ⟨_, hS.lit hb, Agr.cons (dst_mods hs) _, .inl ⟨by rw [hw]; rfl, h⟩⟩
    · rename_i vs hb
      have hcell := hS.2 s _ hb
      simp only [avV] at hcell
      exact ⟨fr, hS, Agr.refl _ _, .inr ⟨wanted_not hg hs hcell, h⟩⟩

theorem vcOps_sound (S : Sys P B C Inv y yl) (hT : TOk P T) {ops : Array Oper} {KK : Fr → Hp → Al → Prop} {Q : Exit → Act → World → Prop} {fr0 : Fr}
    (hQ : ∀ fr a al w, Sat y n fr a → KK fr (hp w) al → Ctx ro B C Inv al a.defers w → Agr (opsMods ops.toList) fr0 fr → Q .normal a w) :
    ∀ (l : List Nat) (fr : Fr) (al : Al) (a : Act) (w : World), vcOps P T yl n ops KK l fr (hp w) al → Sat y n fr a → Ctx ro B C Inv al a.defers w → Agr (opsMods ops.toList) fr0 fr →
      wpOpsIn (Fn (ro.map (·.1))) nn P ops Q l a w
  | [], fr, al, a, w, h, hS, hC, hA => hQ fr a al w hS h hC hA
  | i :: rest, fr, al, a, w, h, hS, hC, hA => by
    obtain ⟨o, ho, fr', hS', hA', h⟩ := vcOps_step h hS
    simp only [wpOpsIn, ho]
    rcases h with ⟨hw, h⟩ | ⟨hw, h⟩
    · rw [if_pos hw]
      refine op_sound S hT h hS' hC fun x w' al' hk hC' => ?_
      obtain ⟨fr'', hS'', hA'', hk⟩ := setD_agr ho hk hS'
      exact vcOps_sound S hT hQ rest fr'' al' _ w' hk hS'' (by rw [put_defers]; exact hC') ((hA.trans hA').trans hA'')
    · rw [if_neg (by rw [hw]; simp)]
      obtain ⟨fr'', hS'', hA'', hk⟩ := setD_agr ho h hS'
      exact ⟨fun _ _ => trivial, vcOps_sound S hT hQ rest fr'' al _ w hk hS'' (by rw [put_defers]; exact hC) ((hA.trans hA').trans hA'')⟩

/-- Quiet operations k .. k + f - 1, walked in the order of the text. -/
theorem vcOps_lexW (hT : TOk P T) {ops : Array Oper} {KK : Fr → Hp → Al → Prop} {w : World} {g : Nat} {fr0 : Fr} : ∀ (f k : Nat) (fr : Fr) (al : Al) (a : Act), Agr (opsMods ops.toList) fr0 fr →
    (∀ j o, k ≤ j → j < k + f → ops[j]? = some o → quietOp o.op = true) → vcOps P T yl n ops KK (List.range' k (f + g)) fr (hp w) al → Sat y n fr a →
      lexW P ops w (fun a' => a'.defers = a.defers ∧ ∃ fr', Sat y n fr' a' ∧ Agr (opsMods ops.toList) fr0 fr' ∧ vcOps P T yl n ops KK (List.range' (k + f) g) fr' (hp w) al) f k a
  | 0, k, fr, al, a, hA, _, h, hS => ⟨rfl, fr, hS, hA, by simpa using h⟩
  | f + 1, k, fr, al, a, hA, hq, h, hS => by
    rw [show f + 1 + g = (f + g) + 1 by omega, List.range'_succ] at h
    obtain ⟨o, ho, fr', hS', hA', h⟩ := vcOps_step h hS
    have hqo := hq k o (Nat.le_refl _) (by omega) ho
    simp only [lexW, stF, ho]
    have go : ∀ (v : AV), (setD n o.dst fr' v fun fr'' => vcOps P T yl n ops KK (List.range' (k + 1) (f + g)) fr'' (hp w) al) →
        lexW P ops w (fun a' => a'.defers = a.defers ∧ ∃ fr', Sat y n fr' a' ∧ Agr (opsMods ops.toList) fr0 fr' ∧ vcOps P T yl n ops KK (List.range' (k + (f + 1)) g) fr' (hp w) al) f (k + 1) (a.put o.dst (avV y v)) := by
      intro v hk
      obtain ⟨fr'', hS'', hA'', hk⟩ := setD_agr ho hk hS'
      have := vcOps_lexW hT f (k + 1) fr'' al _ ((hA.trans hA').trans hA'') (fun j o h1 h2 => hq j o (by omega) (by omega)) hk hS''
      rw [put_defers, show k + 1 + f = k + (f + 1) by omega] at this
      exact this
    rcases h with ⟨hw, h⟩ | ⟨hw, h⟩
    · obtain ⟨x, hr, hk⟩ := q_all hT hqo h hS'
      refine ⟨_, .inl ⟨hw, ?_, hr⟩, go x hk⟩
      intro c hc
      rw [hc] at hqo
      cases hqo
    · exact ⟨_, .inr ⟨hw, rfl⟩, go (.v undef) h⟩

theorem takeWhile_get {α : Type} (p : α → Bool) : ∀ (l : List α) (j : Nat) (x : α), j < (l.takeWhile p).length → l[j]? = some x → p x = true
  | [], j, x, hj, _ => by simp at hj
  | a :: l, j, x, hj, hx => by
    rw [List.takeWhile_cons] at hj
    cases hp : p a with
    | false => rw [hp] at hj; simp at hj
    | true =>
      rw [hp] at hj
      cases j with
      | zero => simp at hx; rw [← hx]; exact hp
      | succ j => exact takeWhile_get p l j x (by simpa using hj) (by simpa using hx)

theorem quiet_head {ops : Array Oper} {j : Nat} {o : Oper} (hj : j < qLen ops) (ho : ops[j]? = some o) : quietOp o.op = true :=
  takeWhile_get (fun o : Oper => quietOp o.op) ops.toList j o hj (by simpa using ho)

/-- One operation at the head of a list, as 'vcD' has it. -/
theorem vcD_step {ops : Array Oper} {KK : Held → Fr → Hp → Al → Prop} {i : Nat} {held : Held} {fr : Fr} {H : Hp} {al : Al} {a : Act}
    (h : vcDS P T yl n ops i KK held fr H al) (hS : Sat y n fr a) :
    ∃ o, ops[i]? = some o ∧ ∃ fr', Sat y n fr' a ∧ Agr (opsMods ops.toList) fr fr' ∧
      ((Region.wanted o (yielded ops a.tmps) = true ∧ vcOp P T yl o fr' H al fun x H' al' =>
          bif quietOp o.op then setD n o.dst fr' x fun fr'' => KK (addH i (ldCells T fr' o x) held) fr'' H' al'
          else hhs H' (keepH ops i held) (setD n o.dst fr' x fun fr'' => KK (keepH ops i held) fr'' H' al')) ∨
       (Region.wanted o (yielded ops a.tmps) = false ∧ setD n o.dst fr' (.v undef) fun fr'' => KK held fr'' H al)) := by
  unfold vcDS at h
  split at h <;> try exact h.elim
  rename_i o ho
  refine ⟨o, ho, ?_⟩
  split at h
  · rename_i hg
    exact ⟨fr, hS, Agr.refl _ _, .inl ⟨by simp [Region.wanted, hg], h⟩⟩
  · rename_i j want hg
    split at h <;> try exact h.elim
    rename_i s hs
    split at h <;> try exact h.elim
    · rename_i b hb
      have hcell := hS.2 s _ hb
      simp only [avV] at hcell
      have hw := wanted_of hg hs hcell
      rcases bc_elim h with ⟨rfl, h⟩ | ⟨rfl, h⟩
      · cases want with
        | true => exact ⟨_, hS.lit hb, Agr.cons (dst_mods hs) _, .inl ⟨by rw [hw]; rfl, h⟩⟩
        | false => exact ⟨_, hS.lit hb, Agr.cons (dst_mods hs) _, .inr ⟨by rw [hw]; rfl, h⟩⟩
      · cases want with
        | true => exact ⟨_, hS.lit hb, Agr.cons (dst_mods hs) _, .inr ⟨by rw [hw]; rfl, h⟩⟩
        | false => exact ⟨_, hS.lit hb, Agr.cons (dst_mods hs) _, .inl ⟨by rw [hw]; rfl, h⟩⟩
    · rename_i vs hb
      have hcell := hS.2 s _ hb
      simp only [avV] at hcell
      exact ⟨fr, hS, Agr.refl _ _, .inr ⟨wanted_not hg hs hcell, h⟩⟩

theorem AN_add {ops : Array Oper} {Q : Exit → Act → World → Prop} {ro' : Option Nat} {f i : Nat} {listed : Array Bool} {R : List (Nat × Nat × Value)} {held : Held} {a : Act} {w : World}
    (h : AN P ops ro' nn Q f listed (addH i R held) a w) (hne : R ≠ []) : AN P ops ro' nn Q f listed ((i, R) :: held) a w := by
  cases R with
  | nil => exact absurd rfl hne
  | cons r R => exact h

/-- A held entry with no cells. -/
theorem AN_nil {ops : Array Oper} {Q : Exit → Act → World → Prop} {ro' : Option Nat} {i : Nat} : ∀ (f : Nat) {listed : Array Bool} {held held' : Held} {a : Act} {w : World}, (∀ e ∈ held', e ∈ held ∨ e = (i, [])) →
    AN P ops ro' nn Q f listed held a w → AN P ops ro' nn Q f listed held' a w
  | 0, _, _, _, _, _, _, h => h
  | f + 1, _, held, held', _, _, hs, h => by
    have hk : ∀ j, ∀ e ∈ keepH ops j held', e ∈ keepH ops j held ∨ e = (i, []) := fun j e he => by
      obtain ⟨h1, h2⟩ := List.mem_filter.1 he
      rcases hs e h1 with h3 | h3
      · exact .inl (List.mem_filter.2 ⟨h3, h2⟩)
      · exact .inr h3
    refine ⟨h.1, fun j hj => ?_⟩
    obtain ⟨o, ho, h2⟩ := h.2 j hj
    refine ⟨o, ho, ?_⟩
    rcases h2 with ⟨hq, v, R, h3, h4, h5⟩ | h2
    · exact .inl ⟨hq, v, R, h3, h4, AN_nil f hs h5⟩
    · refine .inr (wpOpIn_mono (fun a' w' h' => ⟨fun e he => ?_, AN_nil f (hk j) h'.2⟩) h2)
      rcases hk j e he with h6 | h6
      · exact h'.1 e h6
      · rw [h6]; intro r hr; cases hr

theorem vcD_an (S : Sys P B C Inv y yl) (hT : TOk P T) {ops : Array Oper} {KK : Fr → Hp → Al → Prop} {Q : Exit → Act → World → Prop} {fr0 : Fr} (hp' : ∀ c a w, ¬ Q (.panic c) a w)
    (hsel : Region.noSelect ops = true) (hdef : noDefB ops = true)
    (hQ : ∀ fr a al w, Sat y n fr a → KK fr (hp w) al → Ctx ro B C Inv al a.defers w → Agr (opsMods ops.toList) fr0 fr → Q .normal a w) :
    ∀ (f : Nat) (l : Ord) (listed : Array Bool) (held : Held) (fr : Fr) (al : Al) (a : Act) (w : World), ordB ops f listed = some l → ClosedL ops listed →
      (∀ e ∈ held, HoldsH (hp w) e.2) → vcD P T yl n ops KK l held fr (hp w) al → Sat y n fr a → Ctx ro B C Inv al a.defers w → Agr (opsMods ops.toList) fr0 fr →
      AN P ops (ro.map (·.1)) nn Q f listed held a w := by
  intro f
  induction f with
  | zero =>
    intro l listed held fr al a w hl hc hH h hS hC hA
    simp only [ordB] at hl
    split at hl
    · rename_i hr
      cases hl
      exact ⟨hr, hQ fr a al w hS h hC hA⟩
    · cases hl
  | succ f ih =>
    intro l listed held fr al a w hl hc hH h hS hC hA
    -- one that is ready, whatever it is
    have any1 : ∀ (j : Nat) (l' : Ord), j ∈ Region.ready .any ops listed → ordB ops f (listed.setIfInBounds j true) = some l' → vcDS P T yl n ops j (vcD P T yl n ops KK l') held fr (hp w) al →
        ∃ o, ops[j]? = some o ∧
        ((quietOp o.op = true ∧ ∃ v R, YA P ops R o v a ∧ HoldsH (hp w) R ∧ AN P ops (ro.map (·.1)) nn Q f (listed.setIfInBounds j true) held (a.put o.dst v) w) ∨
         (wpOpIn (Fn (ro.map (·.1))) nn P ops Q j (fun a' w' => (∀ e ∈ keepH ops j held, HoldsH (hp w') e.2) ∧ AN P ops (ro.map (·.1)) nn Q f (listed.setIfInBounds j true) (keepH ops j held) a' w') a w)) := by
      intro j l' hmem hl' h
      obtain ⟨o, ho, fr', hS', hA', h⟩ := vcD_step h hS
      refine ⟨o, ho, ?_⟩
      have hHk : ∀ e ∈ keepH ops j held, HoldsH (hp w) e.2 := fun e he => hH e (List.mem_filter.1 he).1
      rcases h with ⟨hw, h⟩ | ⟨hw, h⟩
      · cases hq : quietOp o.op with
        | true =>
          rw [hq] at h
          obtain ⟨x, h1, h2, h3⟩ := q_any hT hq h hS'
          simp only [cond_true] at h3
          obtain ⟨fr'', hS'', hA'', hk⟩ := setD_agr ho h3 hS'
          refine .inl ⟨rfl, _, _, fun W hW => .inl ⟨hw, fun c => noDef_spec hdef j o c ho, h2 W hW⟩, h1, ?_⟩
          have hH' : ∀ e ∈ addH j (ldCells T fr' o x) held, HoldsH (hp w) e.2 := fun e he => by
            unfold addH at he
            split at he
            · exact hH e he
            · rcases List.mem_cons.1 he with rfl | he
              · exact h1
              · exact hH e he
          refine AN_sub f (fun e he => ?_) (ih l' _ _ fr'' al _ w hl' (hc.set hmem) hH' hk hS'' (by rw [put_defers]; exact hC) ((hA.trans hA').trans hA''))
          unfold addH
          split
          · exact he
          · exact List.mem_cons_of_mem _ he
        | false =>
          rw [hq] at h
          simp only [cond_false] at h
          refine .inr ?_
          unfold wpOpIn
          simp only [ho]
          rw [if_pos hw]
          refine op_sound S hT h hS' hC fun x w' al' hk hC' => ?_
          obtain ⟨hk1, hk⟩ := hhs_elim hk
          obtain ⟨fr'', hS'', hA'', hk⟩ := setD_agr ho hk hS'
          exact ⟨hk1, ih l' _ _ fr'' al' _ w' hl' (hc.set hmem) hk1 hk hS'' (by rw [put_defers]; exact hC') ((hA.trans hA').trans hA'')⟩
      · obtain ⟨fr'', hS'', hA'', hk⟩ := setD_agr ho h hS'
        refine .inr ?_
        unfold wpOpIn
        simp only [ho]
        rw [if_neg (by rw [hw]; simp)]
        refine ⟨fun _ _ => trivial, hHk, ?_⟩
        exact AN_sub f (fun e he => (List.mem_filter.1 he).1) (ih l' _ held fr'' al _ w hl' (hc.set hmem) hH hk hS'' (by rw [put_defers]; exact hC) ((hA.trans hA').trans hA''))
    simp only [ordB] at hl
    split at hl
    · -- one that looks
      rename_i i hf
      split at hl
      · rename_i l' hl'
        cases hl
        have hmem := List.mem_of_find?_eq_some hf
        have hpr := List.find?_some hf
        simp only [Bool.and_eq_true] at hpr
        simp only [vcD] at h
        obtain ⟨o, ho, fr', hS', hA', h⟩ := vcD_step h hS
        have hq : quietOp o.op = true := by have := hpr.1; simpa [isQ, ho] using this
        have go : ∀ (v : AV) (R : List (Nat × Nat × Value)), YA P ops R o (avV y v) a → HoldsH (hp w) R →
            (setD n o.dst fr' v fun fr'' => vcD P T yl n ops KK l' (addH i R held) fr'' (hp w) al) → AN P ops (ro.map (·.1)) nn Q (f + 1) listed held a w := by
          intro v R hy hR hk
          obtain ⟨fr'', hS'', hA'', hk⟩ := setD_agr ho hk hS'
          have hH' : ∀ e ∈ addH i R held, HoldsH (hp w) e.2 := fun e he => by
            cases R with
            | nil => exact hH e he
            | cons r R =>
              rcases List.mem_cons.1 he with rfl | he
              · exact hR
              · exact hH e he
          have := ih l' (listed.setIfInBounds i true) _ fr'' al _ w hl' (hc.set hmem) hH' hk hS'' (by rw [put_defers]; exact hC) ((hA.trans hA').trans hA'')
          refine AN_first ho hq (fun j o cs b => Region.noSelect_spec hsel j o cs b) (fun j o c => noDef_spec hdef j o c) hp' f listed held a w hc (Region.free_spec ho hpr.2) hmem hy hR ?_
          cases R with
          | nil => exact AN_nil (i := i) f (fun e he => by rcases List.mem_cons.1 he with h1 | h1; exact .inr h1; exact .inl h1) this
          | cons r R => exact this
        rcases h with ⟨hw, h⟩ | ⟨hw, h⟩
        · obtain ⟨x, h1, h2, h3⟩ := q_any hT hq h hS'
          rw [hq] at h3
          exact go x _ (fun W hW => .inl ⟨hw, fun c => noDef_spec hdef i o c ho, h2 W hW⟩) h1 h3
        · exact go (.v undef) [] (fun W _ => .inr ⟨hw, rfl⟩) (fun r hr => by cases hr) h
      · cases hl
    · split at hl
      · rename_i hr
        cases hl
        exact ⟨fun _ => hQ fr a al w hS h hC hA, fun i hi => by rw [hr] at hi; cases hi⟩
      · -- the one that must be next
        rename_i i hr
        split at hl
        · rename_i l' hl'
          cases hl
          refine ⟨fun h0 => (by rw [h0] at hr; cases hr), fun j hj => ?_⟩
          have hj' := hj
          rw [hr] at hj'
          obtain rfl := List.mem_singleton.1 hj'
          exact any1 j l' hj hl' h
        · cases hl
      · -- each of those that may be next
        rename_i hne hr1
        refine ⟨fun h0 => absurd h0 hne, fun j hj => ?_⟩
        have walk : ∀ (rs : List Nat) (u : Ord), altsB (fun i => ordB ops f (listed.setIfInBounds i true)) rs = some u → vcD P T yl n ops KK u held fr (hp w) al →
            ∀ j ∈ rs, ∃ l', ordB ops f (listed.setIfInBounds j true) = some l' ∧ vcDS P T yl n ops j (vcD P T yl n ops KK l') held fr (hp w) al := by
          intro rs
          induction rs with
          | nil => intro u _ _ j hj; cases hj
          | cons i rs ihr =>
            intro u hu hv j hj
            simp only [altsB] at hu
            split at hu <;> try (cases hu; done)
            rename_i t v ht hv'
            cases hu
            have hh : vcDS P T yl n ops i (vcD P T yl n ops KK t) held fr (hp w) al ∧ vcD P T yl n ops KK v held fr (hp w) al := by
              cases v with
              | stop => exact ⟨hv, trivial⟩
              | _ => exact hv
            rcases List.mem_cons.1 hj with rfl | hj
            · exact ⟨t, ht, hh.1⟩
            · exact ihr v hv' hh.2 j hj
        obtain ⟨l', hl', hd⟩ := walk _ l hl h j hj
        exact any1 j l' hj hl' hd

theorem vcReg_sound (hmix : P.follows .mixedOrders = true) (S : Sys P B C Inv y yl) (hT : TOk P T) {ops : Array Oper} {draw : Bool} {id : Nat} {KK : Fr → Hp → Al → Prop} {Q : Exit → Act → World → Prop}
    {fr : Fr} (hpn : ∀ c a w, ¬ Q (.panic c) a w) (hQ : ∀ fr' a al w, Sat y n fr' a → KK fr' (hp w) al → Ctx ro B C Inv al a.defers w → Agr (opsMods ops.toList) fr fr' → Q .normal a w)
    {al : Al} {a : Act} {w : World} (h : vcReg P T yl n ops draw fr (hp w) al KK) (hS : Sat y n fr a) (hC : Ctx ro B C Inv al a.defers w) :
    (Code.region id ops draw).wpIn (Fn (ro.map (·.1))) nn P Q a w := by
  cases draw with
  | false =>
    simp only [vcReg] at h
    refine wpIn_region ?_
    rw [List.range_eq_range']
    exact vcOps_sound S hT hQ _ fr al a w h hS hC (Agr.refl _ _)
  | true =>
    simp only [vcReg] at h
    cases hd : drawB ops with
    | false =>
      rw [hd] at h
      simp only [cond_false] at h
      split at h <;> try exact h.elim
      rename_i l hl
      unfold drawOrd at hl
      cases hb : Region.noSelect ops && noDefB ops with
      | false => rw [hb] at hl; cases hl
      | true =>
        rw [hb] at hl
        simp only [Bool.and_eq_true] at hb
        refine wpIn_region_any hmix (wpAnyIn_of_AN ops.size _ [] a w.drew ?_)
        exact vcD_an S hT hpn hb.1 hb.2 hQ ops.size l _ [] fr al a w.drew hl (fun j oj hj hl => by rw [getD_replicate_false] at hl; cases hl) (fun e he => by cases he) h hS (hC.ge0 S (Ge.drew w)) (Agr.refl _ _)
    | true =>
      rw [hd] at h
      simp only [cond_true] at h
      have hm : qLen ops ≤ ops.size := by
        have := (List.takeWhile_prefix (fun o : Oper => quietOp o.op) (l := ops.toList)).length_le
        simpa [qLen] using this
      have hN : ops.size = qLen ops + (ops.size - qLen ops) := by omega
      rw [hN] at h
      have hC' : Ctx ro B C Inv al a.defers w.drew := hC.ge0 S (Ge.drew w)
      rw [← hp_drew (w := w)] at h
      have hl := vcOps_lexW (w := w.drew) (fr0 := fr) hT (qLen ops) 0 fr al a (Agr.refl _ _) (fun j o _ h2 ho => quiet_head (by omega) ho) h hS
      refine wp_draw hmix hd hl ?_
      rintro a' ⟨he, fr', hS', hA', h'⟩
      rw [Nat.zero_add] at h'
      exact vcOps_sound S hT hQ _ fr' al a' w.drew h' hS' (by rw [he]; exact hC') hA'

end
end Go.V
