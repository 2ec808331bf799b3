/- The reckoner is sound: regions, code. -/
import Derived.Test.YtimgnhleaekmhaaVcCode
namespace Go.V
section
variable {P : Program} {T : Tab} {A : Ann} {yl : Option GT} {y : Value} {n nn : Nat} {B C : Nat} {Inv : Al → World → Prop} {ro : Option (Nat × Loop)}

/-- The frames agree but at some slots. -/
def Agr (ms : List Nat) (fr fr' : Fr) : Prop := ∀ i, i ∉ ms → fr'.get i = fr.get i

theorem Agr.refl (ms : List Nat) (fr : Fr) : Agr ms fr fr := fun _ _ => rfl
theorem Agr.trans {ms : List Nat} {a b c : Fr} (h : Agr ms a b) (h' : Agr ms b c) : Agr ms a c := fun i hi => (h' i hi).trans (h i hi)
theorem Agr.mono {ms ms' : List Nat} {a b : Fr} (h : Agr ms a b) (hm : ∀ i, i ∈ ms → i ∈ ms') : Agr ms' a b := fun i hi => h i fun e => hi (hm i e)
theorem Agr.cons {ms : List Nat} {fr : Fr} {d : Nat} (hd : d ∈ ms) (x : AV) : Agr ms fr ((d, x) :: fr) := fun i hi => by
  have hne : Nat.beq d i = false := by
    cases h : Nat.beq d i with
    | false => rfl
    | true => exact absurd (Nat.eq_of_beq_eq_true h ▸ hd) hi
  simp [Fr.get, hne]

theorem dst_mods {ops : Array Oper} {j s : Nat} (h : (ops[j]?).bind (·.dst) = some s) : s ∈ opsMods ops.toList := by
  cases ho : ops[j]? with
  | none => rw [ho] at h; cases h
  | some o =>
    rw [ho] at h
    exact List.mem_filterMap.2 ⟨o, Array.mem_toList_iff.2 (Array.mem_of_getElem? ho), h⟩

theorem setD_agr {ops : Array Oper} {i : Nat} {o : Oper} (ho : ops[i]? = some o) {fr : Fr} {x : AV} {K : Fr → Prop} {a : Act} (h : setD n o.dst fr x K) (hS : Sat y n fr a) :
    ∃ fr', Sat y n fr' (a.put o.dst (avV y x)) ∧ Agr (opsMods ops.toList) fr fr' ∧ K fr' := by
  cases hd : o.dst with
  | none => rw [hd] at h; exact ⟨fr, hS, Agr.refl _ _, h⟩
  | some d =>
    rw [hd] at h
    simp only [setD] at h
    cases hb : Nat.blt d n with
    | false => rw [hb] at h; exact h.elim
    | true =>
      rw [hb] at h
      exact ⟨_, hS.cons (by simpa [Nat.blt_eq] using hb) x _ rfl, Agr.cons (dst_mods (j := i) (by rw [ho]; exact hd)) x, h⟩

theorem wanted_of {ops : Array Oper} {o : Oper} {a : Act} {j : Nat} {want : Bool} (hg : o.guard = some (j, want)) {s : Nat} (hs : (ops[j]?).bind (·.dst) = some s) {b : Bool} (hb : a.tmps[s]? = some (.bool b)) :
    Region.wanted o (yielded ops a.tmps) = (b == want) := by
  simp only [Region.wanted, hg, yielded, hs, Option.bind_some, hb]
  cases b <;> cases want <;> rfl

theorem wanted_not {ops : Array Oper} {o : Oper} {a : Act} {j : Nat} {want : Bool} (hg : o.guard = some (j, want)) {s : Nat} (hs : (ops[j]?).bind (·.dst) = some s) {vs : Array Value} (hb : a.tmps[s]? = some (.tuple vs)) :
    Region.wanted o (yielded ops a.tmps) = false := by
  simp [Region.wanted, hg, yielded, hs, hb]

/-- One operation at the head of a list, as 'vcOps' has it: it runs, or it is passed over. -/
theorem vcOps_step {ops : Array Oper} {KK : Fr → Hp → Al → Prop} {i : Nat} {rest : List Nat} {fr : Fr} {H : Hp} {al : Al} {a : Act}
    (h : vcOps P T yl n ops KK (i :: rest) fr H al) (hS : Sat y n fr a) :
    ∃ o, ops[i]? = some o ∧ ∃ fr', Sat y n fr' a ∧ Agr (opsMods ops.toList) fr fr' ∧
      ((Region.wanted o (yielded ops a.tmps) = true ∧ vcOp P T yl o fr' H al fun x H' al' => setD n o.dst fr' x fun fr'' => vcOps P T yl n ops KK rest fr'' H' al') ∨
       (Region.wanted o (yielded ops a.tmps) = false ∧ setD n o.dst fr' (.v undef) fun fr'' => vcOps P T yl n ops KK rest fr'' H al)) := by
  simp only [vcOps] at h
  split at h <;> try exact h.elim
  rename_i o ho
  refine ⟨o, ho, ?_⟩
  split at h
  · rename_i hg
    exact ⟨fr, hS, Agr.refl _ _, .inl ⟨by simp [Region.wanted, hg], h⟩⟩
  · rename_i j want hg
    split at h <;> try exact h.elim
    rename_i s hs
    split at h <;> try exact h.elim
    · rename_i b hb
      have hcell := hS.2 s _ hb
      simp only [avV] at hcell
      have hw := wanted_of hg hs hcell
      rcases bc_elim h with ⟨rfl, h⟩ | ⟨rfl, h⟩
      · cases want with
        | true => exact ⟨_, hS.lit hb, Agr.cons (dst_mods hs) _, .inl ⟨by rw [hw]; rfl, h⟩⟩
        | false => exact ⟨_, hS.lit hb, Agr.cons (dst_mods hs) _, .inr ⟨by rw [hw]; rfl, h⟩⟩
      · cases want with
        | true => exact ⟨_, hS.lit hb, Agr.cons (dst_mods hs) _, .inr ⟨by rw [hw]; rfl, h⟩⟩
        | false => exact ⟨_, hS.lit hb, Agr.cons (dst_mods hs) _, .inl ⟨by rw [hw]; rfl, h⟩⟩
    · rename_i vs hb
      have hcell := hS.2 s _ hb
      simp only [avV] at hcell
      exact ⟨fr, hS, Agr.refl _ _, .inr ⟨wanted_not hg hs hcell, h⟩⟩

theorem vcOps_sound (S : Sys P B C Inv y yl) (hT : TOk P T) {ops : Array Oper} {KK : Fr → Hp → Al → Prop} {Q : Exit → Act → World → Prop} {fr0 : Fr}
    (hQ : ∀ fr a al w, Sat y n fr a → KK fr (hp w) al → Ctx ro B C Inv al a.defers w → Agr (opsMods ops.toList) fr0 fr → Q .normal a w) :
    ∀ (l : List Nat) (fr : Fr) (al : Al) (a : Act) (w : World), vcOps P T yl n ops KK l fr (hp w) al → Sat y n fr a → Ctx ro B C Inv al a.defers w → Agr (opsMods ops.toList) fr0 fr →
      wpOpsIn (Fn (ro.map (·.1))) nn P ops Q l a w
  | [], fr, al, a, w, h, hS, hC, hA => hQ fr a al w hS h hC hA
  | i :: rest, fr, al, a, w, h, hS, hC, hA => by
    obtain ⟨o, ho, fr', hS', hA', h⟩ := vcOps_step h hS
    simp only [wpOpsIn, ho]
    rcases h with ⟨hw, h⟩ | ⟨hw, h⟩
    · rw [if_pos hw]
      refine op_sound S hT h hS' hC fun x w' al' hk hC' => ?_
      obtain ⟨fr'', hS'', hA'', hk⟩ := setD_agr ho hk hS'
      exact vcOps_sound S hT hQ rest fr'' al' _ w' hk hS'' (by rw [put_defers]; exact hC') ((hA.trans hA').trans hA'')
    · rw [if_neg (by rw [hw]; simp)]
      obtain ⟨fr'', hS'', hA'', hk⟩ := setD_agr ho h hS'
      exact ⟨fun _ _ => trivial, vcOps_sound S hT hQ rest fr'' al _ w hk hS'' (by rw [put_defers]; exact hC) ((hA.trans hA').trans hA'')⟩

/-- Quiet operations k .. k + f - 1, walked in the order of the text. -/
theorem vcOps_lexW (hT : TOk P T) {ops : Array Oper} {KK : Fr → Hp → Al → Prop} {w : World} {g : Nat} {fr0 : Fr} : ∀ (f k : Nat) (fr : Fr) (al : Al) (a : Act), Agr (opsMods ops.toList) fr0 fr →
    (∀ j o, k ≤ j → j < k + f → ops[j]? = some o → quietOp o.op = true) → vcOps P T yl n ops KK (List.range' k (f + g)) fr (hp w) al → Sat y n fr a →
      lexW P ops w (fun a' => a'.defers = a.defers ∧ ∃ fr', Sat y n fr' a' ∧ Agr (opsMods ops.toList) fr0 fr' ∧ vcOps P T yl n ops KK (List.range' (k + f) g) fr' (hp w) al) f k a
  | 0, k, fr, al, a, hA, _, h, hS => ⟨rfl, fr, hS, hA, by simpa using h⟩
  | f + 1, k, fr, al, a, hA, hq, h, hS => by
    rw [show f + 1 + g = (f + g) + 1 by omega, List.range'_succ] at h
    obtain ⟨o, ho, fr', hS', hA', h⟩ := vcOps_step h hS
    have hqo := hq k o (Nat.le_refl _) (by omega) ho
    simp only [lexW, stF, ho]
    have go : ∀ (v : AV), (setD n o.dst fr' v fun fr'' => vcOps P T yl n ops KK (List.range' (k + 1) (f + g)) fr'' (hp w) al) →
        lexW P ops w (fun a' => a'.defers = a.defers ∧ ∃ fr', Sat y n fr' a' ∧ Agr (opsMods ops.toList) fr0 fr' ∧ vcOps P T yl n ops KK (List.range' (k + (f + 1)) g) fr' (hp w) al) f (k + 1) (a.put o.dst (avV y v)) := by
      intro v hk
      obtain ⟨fr'', hS'', hA'', hk⟩ := setD_agr ho hk hS'
      have := vcOps_lexW hT f (k + 1) fr'' al _ ((hA.trans hA').trans hA'') (fun j o h1 h2 => hq j o (by omega) (by omega)) hk hS''
      rw [put_defers, show k + 1 + f = k + (f + 1) by omega] at this
      exact this
    rcases h with ⟨hw, h⟩ | ⟨hw, h⟩
    · obtain ⟨x, hr, hk⟩ := q_all hT hqo h hS'
      refine ⟨_, .inl ⟨hw, ?_, hr⟩, go x hk⟩
      intro c hc
      rw [hc] at hqo
      cases hqo
    · exact ⟨_, .inr ⟨hw, rfl⟩, go (.v undef) h⟩

theorem takeWhile_get {α : Type} (p : α → Bool) : ∀ (l : List α) (j : Nat) (x : α), j < (l.takeWhile p).length → l[j]? = some x → p x = true
  | [], j, x, hj, _ => by simp at hj
  | a :: l, j, x, hj, hx => by
    rw [List.takeWhile_cons] at hj
    cases hp : p a with
    | false => rw [hp] at hj; simp at hj
    | true =>
      rw [hp] at hj
      cases j with
      | zero => simp at hx; rw [← hx]; exact hp
      | succ j => exact takeWhile_get p l j x (by simpa using hj) (by simpa using hx)

theorem quiet_head {ops : Array Oper} {j : Nat} {o : Oper} (hj : j < qLen ops) (ho : ops[j]? = some o) : quietOp o.op = true :=
  takeWhile_get (fun o : Oper => quietOp o.op) ops.toList j o hj (by simpa using ho)

theorem vcReg_sound (hmix : P.follows .mixedOrders = true) (S : Sys P B C Inv y yl) (hT : TOk P T) {ops : Array Oper} {draw : Bool} {id : Nat} {KK : Fr → Hp → Al → Prop} {Q : Exit → Act → World → Prop}
    {fr : Fr} (hQ : ∀ fr' a al w, Sat y n fr' a → KK fr' (hp w) al → Ctx ro B C Inv al a.defers w → Agr (opsMods ops.toList) fr fr' → Q .normal a w)
    {al : Al} {a : Act} {w : World} (h : vcReg P T yl n ops draw fr (hp w) al KK) (hS : Sat y n fr a) (hC : Ctx ro B C Inv al a.defers w) :
    (Code.region id ops draw).wpIn (Fn (ro.map (·.1))) nn P Q a w := by
  cases draw with
  | false =>
    simp only [vcReg] at h
    refine wpIn_region ?_
    rw [List.range_eq_range']
    exact vcOps_sound S hT hQ _ fr al a w h hS hC (Agr.refl _ _)
  | true =>
    simp only [vcReg] at h
    cases hd : drawB ops with
    | false => rw [hd] at h; exact h.elim
    | true =>
      rw [hd] at h
      simp only [cond_true] at h
      have hm : qLen ops ≤ ops.size := by
        have := (List.takeWhile_prefix (fun o : Oper => quietOp o.op) (l := ops.toList)).length_le
        simpa [qLen] using this
      have hN : ops.size = qLen ops + (ops.size - qLen ops) := by omega
      rw [hN] at h
      have hC' : Ctx ro B C Inv al a.defers w.drew := hC.ge0 S (Ge.drew w)
      rw [← hp_drew (w := w)] at h
      have hl := vcOps_lexW (w := w.drew) (fr0 := fr) hT (qLen ops) 0 fr al a (Agr.refl _ _) (fun j o _ h2 ho => quiet_head (by omega) ho) h hS
      refine wp_draw hmix hd hl ?_
      rintro a' ⟨he, fr', hS', hA', h'⟩
      rw [Nat.zero_add] at h'
      exact vcOps_sound S hT hQ _ fr' al a' w.drew h' hS' (by rw [he]; exact hC') hA'

end
end Go.V
