/- The reckoner's steps on single operations are what the model's operations do. -/
import Derived.Test.YtimgnhleaekmhaaDoorVcDef
import Derived.Laws.Entries
import Derived.Laws.Cells
import Derived.Laws.IdiomCopy
import Derived.Laws.Concat
import Derived.Laws.Pointers
namespace Go.V

def avV (y : Value) : AV → Value
  | .v x => x
  | .Y => y

def Sat (y : Value) (n : Nat) (fr : Fr) (a : Act) : Prop :=
  a.tmps.size = n ∧ ∀ i x, fr.get i = some x → a.tmps[i]? = some (avV y x)

theorem Sat.cons {y : Value} {n : Nat} {fr : Fr} {a : Act} (h : Sat y n fr a) {d : Nat} (hd : d < n) (x : AV) (a' : Act) (ht : a'.tmps = a.tmps.setIfInBounds d (avV y x)) : Sat y n ((d, x) :: fr) a' := by
  refine ⟨by rw [ht]; simpa using h.1, fun i z hz => ?_⟩
  simp only [Fr.get] at hz
  cases hb : Nat.beq d i with
  | true =>
    rw [hb] at hz
    have := Nat.eq_of_beq_eq_true hb
    subst this
    simp only [cond_true, Option.some.injEq] at hz
    subst hz
    rw [ht]
    have : d < a.tmps.size := by rw [h.1]; exact hd
    simp [this]
  | false =>
    rw [hb] at hz
    have hne : d ≠ i := fun e => by subst e; simp at hb
    rw [ht, Array.getElem?_setIfInBounds_ne hne]
    exact h.2 i z hz

theorem Sat.lit {y : Value} {n : Nat} {fr : Fr} {a : Act} (h : Sat y n fr a) {s : Nat} {x : AV} (hs : fr.get s = some x) : Sat y n ((s, x) :: fr) a := by
  refine ⟨h.1, fun i z hz => ?_⟩
  simp only [Fr.get] at hz
  cases hb : Nat.beq s i with
  | true =>
    rw [hb] at hz
    have := Nat.eq_of_beq_eq_true hb
    subst this
    simp only [cond_true, Option.some.injEq] at hz
    subst hz
    exact h.2 s x hs
  | false => rw [hb] at hz; exact h.2 i z hz

section
variable {P : Program} {T : Tab} {y : Value} {n : Nat} {fr : Fr} {a : Act} {w : World}

theorem evA_eval (h : Sat y n fr a) {x : Operand} {v : AV} (hx : evA fr x = some v) : a.eval x = avV y v := by
  cases x with
  | tmp t =>
    simp only [evA] at hx
    have := h.2 t v hx
    simp [Act.eval, this]
  | const u => simp only [evA, Option.some.injEq] at hx; subst hx; rfl
  | global g => simp only [evA, Option.some.injEq] at hx; subst hx; rfl
  | func f => simp only [evA, Option.some.injEq] at hx; subst hx; rfl

theorem ev_eval (h : Sat y n fr a) {x : Operand} {v : Value} (hx : ev fr x = some v) : a.eval x = v := by
  unfold ev at hx
  split at hx
  · rename_i u hu
    simp only [Option.some.injEq] at hx
    subst hx
    exact evA_eval h hu
  · cases hx

theorem evs_eval (h : Sat y n fr a) : ∀ {l : List Operand} {vs : List Value}, evs fr l = some vs → l.map a.eval = vs
  | [], vs, hx => by simp only [evs, Option.some.injEq] at hx; subst hx; rfl
  | x :: r, vs, hx => by
    simp only [evs] at hx
    split at hx
    · rename_i v us hv hus
      simp only [Option.some.injEq] at hx
      subst hx
      simp [ev_eval h hv, evs_eval h hus]
    · cases hx

theorem evsA_eval (h : Sat y n fr a) {l : Array Operand} {vs : List Value} (hx : evs fr l.toList = some vs) : l.map a.eval = ⟨vs⟩ := by
  have := evs_eval h hx
  apply Array.ext'
  simpa using this

/-! ### The heap's view -/
theorem maskL_get (lo hi : Nat) (l : List Value) (o : Nat) : (maskL lo hi l)[o]? = (l[o]?).map fun v => if lo ≤ o ∧ o < hi then .tuple ⟨[]⟩ else v := by
  unfold maskL; rw [List.getElem?_mapIdx]
theorem maskL_none (l : List Value) : maskL 0 0 l = l := by
  apply List.ext_getElem?
  intro i
  rw [maskL_get]
  simp
theorem maskL_set {lo hi : Nat} {l : List Value} {o : Nat} {v : Value} (h : ¬ (lo ≤ o ∧ o < hi)) : maskL lo hi (l.set o v) = (maskL lo hi l).set o v := by
  apply List.ext_getElem?
  intro i
  rw [maskL_get, List.getElem?_set, List.getElem?_set, maskL_get]
  by_cases e : o = i
  · subst e
    simp only [if_true, if_neg h]
    have : (maskL lo hi l).length = l.length := by simp [maskL]
    rw [this]
    split <;> rfl
  · simp only [if_neg e]
theorem nmO_some {u v : Value} (h : nmO u = some v) : u = v ∧ ∀ a, v ≠ .tuple a := by
  unfold nmO at h
  split at h
  · cases h
  · rename_i hh
    obtain rfl := Option.some.inj h
    exact ⟨rfl, fun a e => hh a e⟩
theorem rd_world {b o : Nat} {v : Value} (h : rd (hp w) b o = some v) : ∃ c t fz, w.heap[b]? = some (.cells c t fz) ∧ c[o]? = some v ∧ ¬ (fz.1 ≤ o ∧ o < fz.2) := by
  simp only [rd, hp] at h
  cases hb : w.heap[b]? with
  | none => simp [hb] at h
  | some ob =>
    rw [hb] at h
    cases ob <;> simp only [Option.bind_some, objB, Option.bind_none, reduceCtorEq] at h
    rename_i c t fz
    rw [maskL_get] at h
    cases hc : c.toList[o]? with
    | none => simp [hc] at h
    | some u =>
      rw [hc] at h
      simp only [Option.map_some, Option.bind_some] at h
      obtain ⟨h1, h2⟩ := nmO_some h
      by_cases hf : fz.1 ≤ o ∧ o < fz.2
      · rw [if_pos hf] at h1; exact absurd h1.symm (h2 _)
      · rw [if_neg hf] at h1
        subst h1
        exact ⟨c, t, fz, rfl, by simpa using hc, hf⟩
theorem cell_of_rd {b o : Nat} {v : Value} (h : rd (hp w) b o = some v) : w.cell? ⟨b, o, none⟩ = some v := by
  obtain ⟨c, t, fz, hb, hc, _⟩ := rd_world h
  simp [World.cell?, hb, hc]

theorem frozen_of_rd {b o : Nat} {v : Value} (h : rd (hp w) b o = some v) : w.frozen? ⟨b, o, none⟩ = false := by
  obtain ⟨c, t, ⟨lo, hi⟩, hb, hc, hf⟩ := rd_world h
  simp only [World.frozen?, hb]
  simp only [Bool.and_eq_false_imp, decide_eq_true_eq, decide_eq_false_iff_not]
  simp only at hf
  omega

theorem hp_setCell {b o : Nat} {v u : Value} (h : rd (hp w) b o = some u) : hp (w.setCell ⟨b, o, none⟩ v) = wr (hp w) b o v := by
  obtain ⟨c, t, fz, hb, hc, hf⟩ := rd_world h
  funext x
  simp only [wr, hp, World.setCell]
  rw [Array.getElem?_modify]
  by_cases hx : x = b
  · subst hx
    simp [hb, objB, maskL_set hf]
  · simp only [if_neg hx, if_neg (fun e => hx (Eq.symm e))]

theorem hp_alloc (c : Array Value) (t : TypeId) : hp (w.alloc (.cells c t)) = upd (hp w) w.heap.size c.toList := by
  funext x
  simp only [upd, hp, World.alloc]
  by_cases hx : x = w.heap.size
  · subst hx
    simp [objB, maskL_none]
  · simp only [if_neg hx]
    rw [Array.getElem?_push]
    simp [hx]

theorem hp_fresh : hp w w.heap.size = none := by simp [hp]

theorem hp_drew : hp w.drew = hp w := rfl

theorem tag_of_same {w w' : World} {b : Nat} (h : w'.heap[b]? = w.heap[b]?) : tagAt w' b = tagAt w b := by simp [tagAt, h]
theorem FzOk.refl (w : World) : FzOk w w := fun _ x h => .inr ⟨x, h, rfl⟩
theorem FzOk.trans {w w1 w2 : World} (h : FzOk w w1) (h' : FzOk w1 w2) : FzOk w w2 := fun b x hx => by
  rcases h' b x hx with e | ⟨y, hy, e⟩
  · exact .inl e
  · rcases h b y hy with e' | ⟨z, hz, e'⟩
    · exact .inl (by rw [← e, e'])
    · exact .inr ⟨z, hz, e'.trans e⟩
theorem FzOk.setObj {w : World} {L : Nat} (o' : Obj) (ho : tagOf o' = none) : FzOk w { w with heap := w.heap.setIfInBounds L o' } := fun b x hx => by
  by_cases e : L = b
  · subst e
    simp only [tagAt, Array.getElem?_setIfInBounds_self] at hx
    split at hx
    · simp [ho] at hx
    · simp at hx
  · refine .inr ⟨x, ?_, rfl⟩
    simp only [tagAt, Array.getElem?_setIfInBounds_ne e] at hx
    exact hx
theorem Ge.refl (B : Nat) (w : World) : Ge B w w := ⟨Nat.le_refl _, fun _ _ _ _ => rfl, rfl, rfl, rfl, fun _ _ _ => rfl, .refl _⟩
theorem hp_of_same {w w' : World} {b : Nat} (h : w'.heap[b]? = w.heap[b]?) : hp w' b = hp w b := by simp [hp, h]
theorem Ge.trans {B : Nat} {w w1 w2 : World} (h : Ge B w w1) (h' : Ge B w1 w2) : Ge B w w2 :=
  ⟨Nat.le_trans h.size h'.size, fun b hB hb hn => by
    have h1 := h.keep b hB hb hn
    rw [h'.keep b hB (Nat.lt_of_lt_of_le hb h.size) (by rw [hp_of_same h1]; exact hn), h1],
    h'.tape.trans h.tape, h'.os.trans h.os, h'.output.trans h.output, fun b hB hb => (h'.tags b hB (Nat.lt_of_lt_of_le hb h.size)).trans (h.tags b hB hb), h.frz.trans h'.frz⟩
theorem Ge.mono {B B' : Nat} {w w' : World} (h : Ge B w w') (hb : B ≤ B') : Ge B' w w' :=
  ⟨h.size, fun b h1 h2 h3 => h.keep b (Nat.le_trans hb h1) h2 h3, h.tape, h.os, h.output, fun b h1 h2 => h.tags b (Nat.le_trans hb h1) h2, h.frz⟩
theorem Ge.lt {C : Nat} {w w' : World} (h : Ge 0 w w') : Lt C w w' :=
  ⟨h.size, fun b _ h2 h3 => h.keep b (Nat.zero_le _) h2 h3, h.tape, h.os, h.output, fun b _ h2 => h.tags b (Nat.zero_le _) h2, h.frz⟩
theorem Lt.mono {C C' : Nat} {w w' : World} (h : Lt C w w') (hc : C' ≤ C) : Lt C' w w' :=
  ⟨h.size, fun b h1 h2 h3 => h.keep b (Nat.lt_of_lt_of_le h1 hc) h2 h3, h.tape, h.os, h.output, fun b h1 h2 => h.tags b (Nat.lt_of_lt_of_le h1 hc) h2, h.frz⟩

theorem Ge.drew (w : World) : Ge 0 w w.drew := ⟨Nat.le_refl _, fun _ _ _ _ => rfl, rfl, rfl, rfl, fun _ _ _ => rfl, fun _ x h => .inr ⟨x, h, rfl⟩⟩
theorem Ge.alloc (w : World) (o : Obj) (ho : ∀ x, tagOf o = some x → x.2.1 = (0, 0) := by intro x h; first | (cases h; done) | (cases h; rfl)) : Ge 0 w (w.alloc o) := by
  have key : ∀ b, b < w.heap.size → (w.alloc o).heap[b]? = w.heap[b]? := fun b hb => by
    simp only [World.alloc]
    rw [Array.getElem?_push]
    simp [Nat.ne_of_lt hb]
  refine ⟨by simp, fun b _ hb _ => key b hb, rfl, rfl, rfl, fun b _ hb => tag_of_same (key b hb), fun b x hx => ?_⟩
  by_cases hb : b < w.heap.size
  · exact .inr ⟨x, by rw [← tag_of_same (key b hb)]; exact hx, rfl⟩
  · left
    simp only [tagAt, World.alloc, Array.getElem?_push] at hx
    split at hx
    · exact ho x (by simpa using hx)
    · rw [Array.getElem?_eq_none (by omega)] at hx; cases hx
theorem Ge.setCell {b o : Nat} {u : Value} (v : Value) (h : rd (hp w) b o = some u) : Ge 0 w (w.setCell ⟨b, o, none⟩ v) := by
  have key : ∀ x, tagAt (w.setCell ⟨b, o, none⟩ v) x = tagAt w x := fun x => ?_
  refine ⟨by simp, fun x _ _ hx => ?_, rfl, rfl, rfl, fun x _ _ => key x, fun x y hy => .inr ⟨y, by rw [← key x]; exact hy, rfl⟩⟩
  · simp only [World.setCell]
    rw [Array.getElem?_modify]
    have : b ≠ x := fun e => by subst e; simp [rd, hx] at h
    simp [this]
  · obtain ⟨c, t, fz, hb, hc, hf⟩ := rd_world h
    simp only [tagAt, World.setCell]
    rw [Array.getElem?_modify]
    by_cases e : b = x
    · subst e
      simp only [if_true, hb, Option.map_some, Option.bind_some, tagOf]
      congr 4
      · simp
      · apply List.ext_getElem?
        intro i
        simp only [List.getElem?_take, List.getElem?_drop]
        by_cases hi : i < fz.2 - fz.1
        · rw [if_pos hi, if_pos hi, Array.getElem?_toList, Array.getElem?_toList]
          show (c.setIfInBounds o v)[fz.1 + i]? = _
          rw [Array.getElem?_setIfInBounds_ne (by omega)]
        · rw [if_neg hi, if_neg hi]
    · simp [e]

/-! ### Values -/
theorem add_off (b o k : Nat) : (⟨b, o, none⟩ : Addr).add k = ⟨b, o + k, none⟩ := by
  unfold Addr.add
  split
  · simp_all
  · rfl
theorem mulS_eq (i s : Nat) : mulS i s = i * s := by
  unfold mulS
  cases h : Nat.beq s 1 with
  | true => have := Nat.eq_of_beq_eq_true h; subst this; simp
  | false => rfl

theorem run_typeInfo {t : TypeId} {i : TypeInfo} (h : P.info? t = some i) : (typeInfo t).run P w = .ok i w := by simp [typeInfo, h]
theorem run_sizeOf {t : TypeId} {i : TypeInfo} (h : P.info? t = some i) : (sizeOf t).run P w = .ok i.size w := by simp [sizeOf, run_typeInfo h]

theorem shD_notAgg {s : Sh} {d : TypeDesc} (h : shD s d = true) : (match d with | .struct _ | .array _ _ => true | _ => false) = false := by
  cases s <;> cases d <;> first | rfl | exact absurd (show false = true from h) (by decide)

theorem run_isAgg_sc {t : TypeId} {s : Sh} {d : TypeDesc} (hu : P.underlying t = some d) (h : shD s d = true) : (isAgg t).run P w = .ok false w := by
  have := shD_notAgg h
  cases d <;> simp_all [isAgg, run_underlying hu] <;> rfl

theorem ldSh_elim {s : Sh} {x : Option Value} {F : Value → Prop} (h : ldSh s x F) : ∃ v, x = some v ∧ F v := by
  cases s <;> simp only [ldSh, ldI, ldB, ldS, ldP, ldL, ldM, ldV] at h
  case slice => obtain ⟨p, l, c, h1, h2⟩ := h; exact ⟨_, h1, h2⟩
  all_goals obtain ⟨u, h1, h2⟩ := h; exact ⟨_, h1, h2⟩

theorem ldAgg_elim {H : Hp} {b : Nat} : ∀ {l : List Sh} {o : Nat} {F : List Value → Prop}, ldAgg H b o l F → ∃ vs, vs.length = l.length ∧ (∀ i v, vs[i]? = some v → rd H b (o + i) = some v) ∧ F vs
  | [], o, F, h => ⟨[], rfl, by simp, h⟩
  | s :: r, o, F, h => by
    simp only [ldAgg] at h
    obtain ⟨v, hv, h⟩ := ldSh_elim h
    obtain ⟨vs, hl, hr, hF⟩ := ldAgg_elim h
    refine ⟨v :: vs, by simp [hl], fun i x hx => ?_, hF⟩
    cases i with
    | zero => simp at hx; subst hx; simpa using hv
    | succ i => simp at hx; have := hr i x hx; rw [← this]; congr 1; omega

theorem run_load_sc {t : TypeId} {b o : Nat} {v : Value} (ha : (isAgg t).run P w = .ok false w) (h : rd (hp w) b o = some v) :
    (Instr.loadAt t (.pointer (some ⟨b, o, none⟩))).run P w = .ok v w := by
  simp [Instr.loadAt, Instr.sureAddr, loadVar, ha, cell_of_rd h]

theorem run_load_st {t : TypeId} {b o : Nat} {vs : List Value} {i : TypeInfo} {fs : Array Field} (hu : P.underlying t = some (.struct fs)) (hi : P.info? t = some i) (hs : i.size = vs.length)
    (h : ∀ i v, vs[i]? = some v → rd (hp w) b (o + i) = some v) : (Instr.loadAt t (.pointer (some ⟨b, o, none⟩))).run P w = .ok (.agg ⟨vs⟩) w := by
  have ha : (isAgg t).run P w = .ok true w := by simp [isAgg, run_underlying hu]
  have hc : (loadCells ⟨b, o, none⟩ vs.length).run P w = .ok ⟨vs⟩ w := by
    have := run_loadCells_list (P := P) (w := w) ⟨b, o, none⟩ vs (fun j v hj => by rw [add_off]; exact cell_of_rd (h j v hj))
    exact this
  simp [Instr.loadAt, Instr.sureAddr, loadVar, ha, run_sizeOf hi, hs, hc]

theorem run_fieldPlace {b o : Nat} {f : Field} {i : TypeInfo} (hi : P.info? f.type = some i) (hs : i.size ≠ 0) : (fieldPlace ⟨b, o, none⟩ f).run P w = .ok ⟨b, o + f.offset, none⟩ w := by
  simp [fieldPlace, run_sizeOf hi, hs, add_off]

theorem TSpec.size {t : TypeId} {e : TE} (h : TSpec P t e) : ∃ i, P.info? t = some i ∧ i.size = e.size ∧ i.bytes = e.bytes := by
  obtain ⟨i, d, hi, hu, hs, hb, h⟩ := h
  exact ⟨i, hi, hs, hb⟩

end
end Go.V
