/- The reckoner's steps on single operations are what the model's operations do. -/
import Derived.Test.YteijgmmjgbgffaaDoorVcDef
import Derived.Laws.Entries
import Derived.Laws.Cells
import Derived.Laws.IdiomCopy
import Derived.Laws.Concat
import Derived.Laws.Pointers
namespace Go.V
set_option linter.unusedSectionVars false

def avV (y : Value) : AV → Value
  | .v x => x
  | .Y => y

def Sat (y : Value) (n : Nat) (fr : Fr) (a : Act) : Prop :=
  a.tmps.size = n ∧ ∀ i x, fr.get i = some x → a.tmps[i]? = some (avV y x)

theorem Sat.cons {y : Value} {n : Nat} {fr : Fr} {a : Act} (h : Sat y n fr a) {d : Nat} (hd : d < n) (x : AV) (a' : Act) (ht : a'.tmps = a.tmps.setIfInBounds d (avV y x)) : Sat y n ((d, x) :: fr) a' := by
  refine ⟨by rw [ht]; simpa using h.1, fun i z hz => ?_⟩
  simp only [Fr.get] at hz
  cases hb : Nat.beq d i with
  | true =>
    rw [hb] at hz
    have := Nat.eq_of_beq_eq_true hb
    subst this
    simp only [cond_true, Option.some.injEq] at hz
    subst hz
    rw [ht]
    have : d < a.tmps.size := by rw [h.1]; exact hd
    simp [this]
  | false =>
    rw [hb] at hz
    have hne : d ≠ i := fun e => by subst e; simp at hb
    rw [ht, Array.getElem?_setIfInBounds_ne hne]
    exact h.2 i z hz

theorem Sat.lit {y : Value} {n : Nat} {fr : Fr} {a : Act} (h : Sat y n fr a) {s : Nat} {x : AV} (hs : fr.get s = some x) : Sat y n ((s, x) :: fr) a := by
  refine ⟨h.1, fun i z hz => ?_⟩
  simp only [Fr.get] at hz
  cases hb : Nat.beq s i with
  | true =>
    rw [hb] at hz
    have := Nat.eq_of_beq_eq_true hb
    subst this
    simp only [cond_true, Option.some.injEq] at hz
    subst hz
    exact h.2 s x hs
  | false => rw [hb] at hz; exact h.2 i z hz

section
variable [Sp] {P : Program} {T : Tab} {y : Value} {n : Nat} {fr : Fr} {a : Act} {w : World}

theorem evA_eval (h : Sat y n fr a) {x : Operand} {v : AV} (hx : evA fr x = some v) : a.eval x = avV y v := by
  cases x with
  | tmp t =>
    simp only [evA] at hx
    have := h.2 t v hx
    simp [Act.eval, this]
  | const u => simp only [evA, Option.some.injEq] at hx; subst hx; rfl
  | global g => simp only [evA, Option.some.injEq] at hx; subst hx; rfl
  | func f => simp only [evA, Option.some.injEq] at hx; subst hx; rfl

theorem ev_eval (h : Sat y n fr a) {x : Operand} {v : Value} (hx : ev fr x = some v) : a.eval x = v := by
  unfold ev at hx
  split at hx
  · rename_i u hu
    simp only [Option.some.injEq] at hx
    subst hx
    exact evA_eval h hu
  · cases hx

theorem evs_eval (h : Sat y n fr a) : ∀ {l : List Operand} {vs : List Value}, evs fr l = some vs → l.map a.eval = vs
  | [], vs, hx => by simp only [evs, Option.some.injEq] at hx; subst hx; rfl
  | x :: r, vs, hx => by
    simp only [evs] at hx
    split at hx
    · rename_i v us hv hus
      simp only [Option.some.injEq] at hx
      subst hx
      simp [ev_eval h hv, evs_eval h hus]
    · cases hx

theorem evsA_eval (h : Sat y n fr a) {l : Array Operand} {vs : List Value} (hx : evs fr l.toList = some vs) : l.map a.eval = ⟨vs⟩ := by
  have := evs_eval h hx
  apply Array.ext'
  simpa using this

/-! ### The heap's view -/
theorem maskL_get (lo hi : Nat) (l : List Value) (o : Nat) : (maskL lo hi l)[o]? = (l[o]?).map fun v => if lo ≤ o ∧ o < hi then .tuple ⟨[v]⟩ else emb v := by
  unfold maskL; rw [List.getElem?_mapIdx]
theorem emb_notT {v : Value} (h : notT v = true) : emb v = v := by cases v <;> first | rfl | cases h
theorem maskL_none {l : List Value} (h : l.all notT = true) : maskL 0 0 l = l := by
  apply List.ext_getElem?
  intro i
  rw [maskL_get]
  cases hi : l[i]? with
  | none => rfl
  | some v => simp [emb_notT (List.all_eq_true.1 h v (List.mem_of_getElem? hi))]
theorem isCell_notT {v : Value} (h : isCell v = true) : notT v = true := by cases v <;> first | rfl | cases h
theorem maskL_len {lo hi : Nat} {l : List Value} : (maskL lo hi l).length = l.length := by simp [maskL]
theorem maskL_set {lo hi : Nat} {l : List Value} {o : Nat} {v : Value} (h : ¬ (lo ≤ o ∧ o < hi)) (hv : notT v = true) : maskL lo hi (l.set o v) = (maskL lo hi l).set o v := by
  apply List.ext_getElem?
  intro i
  rw [maskL_get, List.getElem?_set, List.getElem?_set, maskL_get, maskL_len]
  by_cases e : o = i
  · subst e
    simp only [if_true, if_neg h]
    split
    · simp [emb_notT hv]
    · rfl
  · simp only [if_neg e]
theorem mkl_eq (l m : List Value) : mkl l m = l ++ m := by cases m <;> simp [mkl]
theorem nmO_some {u v : Value} (h : nmO u = some v) : u = v ∧ ∀ a, v ≠ .tuple a := by
  unfold nmO at h
  split at h
  · cases h
  · rename_i hh
    obtain rfl := Option.some.inj h
    exact ⟨rfl, fun a e => hh a e⟩
theorem nmO_notT {u v : Value} (h : nmO u = some v) : notT v = true := by
  obtain ⟨_, h2⟩ := nmO_some h
  cases v <;> first | rfl | exact absurd rfl (h2 _)
theorem mkT_no {t : TypeId} {fz : Nat × Nat} {v : Value} (h : v ∈ mkT t fz) : nmO v = none := by
  unfold mkT at h
  cases hs : Sp.sp t <;> rw [hs] at h
  · cases h
  · simp only [cond_true, List.mem_singleton] at h; subst h; rfl
theorem mkl_get {l : List Value} {t : TypeId} {fz : Nat × Nat} {o : Nat} : ((mkl l (mkT t fz))[o]?).bind nmO = (l[o]?).bind nmO := by
  rw [mkl_eq]
  by_cases h : o < l.length
  · rw [List.getElem?_append_left h]
  · rw [List.getElem?_append_right (by omega), List.getElem?_eq_none (l := l) (by omega)]
    cases hg : (mkT t fz)[o - l.length]? with
    | none => rfl
    | some v => simpa using mkT_no (List.mem_of_getElem? hg)
theorem rd_mapped {es : List MapEntry} {clock o : Nat} : ((mapV es clock)[o]?).bind nmO = none := by
  cases o with
  | zero => rfl
  | succ o =>
    simp only [mapV, List.getElem?_cons_succ, List.getElem?_map]
    cases es[o]? <;> rfl
theorem rd_iter {m : Option Nat} {a b o : Nat} {seen : List Nat} : ((iterV m a seen b)[o]?).bind nmO = none := by
  cases o with
  | zero => rfl
  | succ o =>
    simp only [iterV, List.getElem?_cons_succ, List.getElem?_map]
    cases seen[o]? <;> rfl
theorem rd_world {b o : Nat} {v : Value} (h : rd (hp w) b o = some v) : ∃ c t fz, w.heap[b]? = some (.cells c t fz) ∧ c[o]? = some v ∧ ¬ (fz.1 ≤ o ∧ o < fz.2) ∧ notT v = true := by
  simp only [rd, hp] at h
  cases hb : w.heap[b]? with
  | none => simp [hb] at h
  | some ob =>
    rw [hb] at h
    cases ob <;> simp only [Option.bind_some, objB, Option.bind_none, reduceCtorEq] at h
    case map => rw [rd_mapped] at h; cases h
    case mapIter => rw [rd_iter] at h; cases h
    rename_i c t fz
    rw [mkl_get, maskL_get] at h
    cases hc : c.toList[o]? with
    | none => simp [hc] at h
    | some u =>
      rw [hc] at h
      simp only [Option.map_some, Option.bind_some] at h
      obtain ⟨h1, h2⟩ := nmO_some h
      by_cases hf : fz.1 ≤ o ∧ o < fz.2
      · rw [if_pos hf] at h1; exact absurd h1.symm (h2 _)
      · rw [if_neg hf] at h1
        have hu : u = v := by
          cases u <;> first | exact h1 | exact absurd h1.symm (h2 _)
        subst hu
        exact ⟨c, t, fz, rfl, by simpa using hc, hf, nmO_notT h⟩
theorem cell_of_rd {b o : Nat} {v : Value} (h : rd (hp w) b o = some v) : w.cell? ⟨b, o, none⟩ = some v := by
  obtain ⟨c, t, fz, hb, hc, _, _⟩ := rd_world h
  simp [World.cell?, hb, hc]

theorem frozen_of_rd {b o : Nat} {v : Value} (h : rd (hp w) b o = some v) : w.frozen? ⟨b, o, none⟩ = false := by
  obtain ⟨c, t, ⟨lo, hi⟩, hb, hc, hf, _⟩ := rd_world h
  simp only [World.frozen?, hb]
  simp only [Bool.and_eq_false_imp, decide_eq_true_eq, decide_eq_false_iff_not]
  simp only at hf
  omega

theorem hp_setCell {b o : Nat} {v u : Value} (h : rd (hp w) b o = some u) (hv : notT v = true) : hp (w.setCell ⟨b, o, none⟩ v) = wr (hp w) b o v := by
  obtain ⟨c, t, fz, hb, hc, hf, _⟩ := rd_world h
  have ho : o < c.toList.length := by
    have := (Array.getElem?_eq_some_iff.1 hc).1
    simpa using this
  funext x
  simp only [wr, hp, World.setCell]
  rw [Array.getElem?_modify]
  by_cases hx : x = b
  · subst hx
    simp only [if_true, hb, Option.map_some, Option.bind_some, objB, Option.isSome_none, Bool.false_eq_true, if_false, Array.toList_setIfInBounds]
    rw [maskL_set hf hv, mkl_eq, mkl_eq, List.set_append_left _ _ (by rw [maskL_len]; exact ho)]
  · simp only [if_neg hx, if_neg (fun e => hx (Eq.symm e))]

theorem hp_alloc (c : Array Value) (t : TypeId) (hc : c.toList.all notT = true) : hp (w.alloc (.cells c t)) = upd (hp w) w.heap.size (mkl c.toList (mkT t)) := by
  funext x
  simp only [upd, hp, World.alloc]
  by_cases hx : x = w.heap.size
  · subst hx
    simp [objB, maskL_none hc]
  · simp only [if_neg hx]
    rw [Array.getElem?_push]
    simp [hx]

theorem hp_fresh : hp w w.heap.size = none := by simp [hp]

theorem hp_drew : hp w.drew = hp w := rfl

theorem tag_of_same {w w' : World} {b : Nat} (h : w'.heap[b]? = w.heap[b]?) : tagAt w' b = tagAt w b := by simp [tagAt, h]
theorem TagLe.refl (x : Option (Nat × Nat × Nat × Nat)) : TagLe x x := .inl rfl
theorem TagLe.of {x y : Option (Nat × Nat × Nat × Nat)} (h : y = x) : TagLe x y := .inl h
theorem TagLe.trans {x y z : Option (Nat × Nat × Nat × Nat)} (h : TagLe x y) (h' : TagLe y z) : TagLe x z := by
  rcases h with rfl | ⟨k, l, g, l', g', n, rfl, rfl, h1, i, h2, h3, h4⟩
  · exact h'
  · rcases h' with rfl | ⟨k', a, c, a', c', n', e1, rfl, h5, _⟩
    · exact .inr ⟨k, l, g, l', g', n, rfl, rfl, h1, i, h2, h3, h4⟩
    · simp only [Option.some.injEq, Prod.mk.injEq] at e1
      obtain ⟨rfl, rfl, rfl, rfl⟩ := e1
      exact .inr ⟨k, l, g, a', c', n, rfl, rfl, fun j hj h6 h7 => h5 j hj (h1 j hj h6 h7).1 (h1 j hj h6 h7).2, i, h2, h5 i h2 h3.1 h3.2, h4⟩
theorem Ge.refl (B : Nat) (w : World) : Ge B w w := ⟨Nat.le_refl _, fun _ _ _ _ => rfl, rfl, rfl, rfl, fun _ _ _ => .refl _⟩
theorem hp_of_same {w w' : World} {b : Nat} (h : w'.heap[b]? = w.heap[b]?) : hp w' b = hp w b := by simp [hp, h]
theorem Ge.trans {B : Nat} {w w1 w2 : World} (h : Ge B w w1) (h' : Ge B w1 w2) : Ge B w w2 :=
  ⟨Nat.le_trans h.size h'.size, fun b hB hb hn => by
    have h1 := h.keep b hB hb hn
    rw [h'.keep b hB (Nat.lt_of_lt_of_le hb h.size) (by rw [hp_of_same h1]; exact hn), h1],
    h'.tape.trans h.tape, h'.os.trans h.os, h'.output.trans h.output, fun b hB hb => (h.tags b hB hb).trans (h'.tags b hB (Nat.lt_of_lt_of_le hb h.size))⟩
theorem Ge.mono {B B' : Nat} {w w' : World} (h : Ge B w w') (hb : B ≤ B') : Ge B' w w' :=
  ⟨h.size, fun b h1 h2 h3 => h.keep b (Nat.le_trans hb h1) h2 h3, h.tape, h.os, h.output, fun b h1 h2 => h.tags b (Nat.le_trans hb h1) h2⟩
theorem Ge.lt {C : Nat} {w w' : World} (h : Ge 0 w w') : Lt C w w' :=
  ⟨h.size, fun b _ h2 h3 => h.keep b (Nat.zero_le _) h2 h3, h.tape, h.os, h.output, fun b _ h2 => h.tags b (Nat.zero_le _) h2⟩
theorem Lt.mono {C C' : Nat} {w w' : World} (h : Lt C w w') (hc : C' ≤ C) : Lt C' w w' :=
  ⟨h.size, fun b h1 h2 h3 => h.keep b (Nat.lt_of_lt_of_le h1 hc) h2 h3, h.tape, h.os, h.output, fun b h1 h2 => h.tags b (Nat.lt_of_lt_of_le h1 hc) h2⟩

theorem Ge.drew (w : World) : Ge 0 w w.drew := ⟨Nat.le_refl _, fun _ _ _ _ => rfl, rfl, rfl, rfl, fun _ _ _ => .refl _⟩
theorem Ge.alloc (w : World) (o : Obj) : Ge 0 w (w.alloc o) := by
  have key : ∀ b, b < w.heap.size → (w.alloc o).heap[b]? = w.heap[b]? := fun b hb => by
    simp only [World.alloc]
    rw [Array.getElem?_push]
    simp [Nat.ne_of_lt hb]
  exact ⟨by simp, fun b _ hb _ => key b hb, rfl, rfl, rfl, fun b _ hb => .of (tag_of_same (key b hb))⟩
theorem Ge.setCell {b o : Nat} {u : Value} (v : Value) (h : rd (hp w) b o = some u) : Ge 0 w (w.setCell ⟨b, o, none⟩ v) := by
  have key : ∀ x, tagAt (w.setCell ⟨b, o, none⟩ v) x = tagAt w x := fun x => ?_
  refine ⟨by simp, fun x _ _ hx => ?_, rfl, rfl, rfl, fun x _ _ => .of (key x)⟩
  · simp only [World.setCell]
    rw [Array.getElem?_modify]
    have : b ≠ x := fun e => by subst e; simp [rd, hx] at h
    simp [this]
  · obtain ⟨c, t, fz, hb, hc, hf, _⟩ := rd_world h
    simp only [tagAt, World.setCell]
    rw [Array.getElem?_modify]
    by_cases e : b = x
    · subst e
      simp [hb, tagOf]
    · simp [e]

/-! ### Values -/
theorem add_off (b o k : Nat) : (⟨b, o, none⟩ : Addr).add k = ⟨b, o + k, none⟩ := by
  unfold Addr.add
  split
  · simp_all
  · rfl
theorem mulS_eq (i s : Nat) : mulS i s = i * s := by
  unfold mulS
  cases h : Nat.beq s 1 with
  | true => have := Nat.eq_of_beq_eq_true h; subst this; simp
  | false => rfl

theorem run_typeInfo {t : TypeId} {i : TypeInfo} (h : P.info? t = some i) : (typeInfo t).run P w = .ok i w := by simp [typeInfo, h]
theorem run_sizeOf {t : TypeId} {i : TypeInfo} (h : P.info? t = some i) : (sizeOf t).run P w = .ok i.size w := by simp [sizeOf, run_typeInfo h]

theorem shD_notAgg {s : Sh} {d : TypeDesc} (h : shD s d = true) : (match d with | .struct _ | .array _ _ => true | _ => false) = false := by
  cases s <;> cases d <;> first | rfl | exact absurd (show false = true from h) (by decide)

theorem run_isAgg_sc {t : TypeId} {s : Sh} {d : TypeDesc} (hu : P.underlying t = some d) (h : shD s d = true) : (isAgg t).run P w = .ok false w := by
  have := shD_notAgg h
  cases d <;> simp_all [isAgg, run_underlying hu] <;> rfl

theorem ldSh_elim {s : Sh} {x : Option Value} {F : Value → Prop} (h : ldSh s x F) : ∃ v, x = some v ∧ F v := by
  cases s <;> simp only [ldSh, ldI, ldB, ldS, ldP, ldL, ldM, ldV] at h
  case slice => obtain ⟨p, l, c, h1, h2⟩ := h; exact ⟨_, h1, h2⟩
  all_goals obtain ⟨u, h1, h2⟩ := h; exact ⟨_, h1, h2⟩

theorem ldAgg_elim {H : Hp} {b : Nat} : ∀ {l : List Sh} {o : Nat} {F : List Value → Prop}, ldAgg H b o l F → ∃ vs, vs.length = l.length ∧ (∀ i v, vs[i]? = some v → rd H b (o + i) = some v) ∧ F vs
  | [], o, F, h => ⟨[], rfl, by simp, h⟩
  | s :: r, o, F, h => by
    simp only [ldAgg] at h
    obtain ⟨v, hv, h⟩ := ldSh_elim h
    obtain ⟨vs, hl, hr, hF⟩ := ldAgg_elim h
    refine ⟨v :: vs, by simp [hl], fun i x hx => ?_, hF⟩
    cases i with
    | zero => simp at hx; subst hx; simpa using hv
    | succ i => simp at hx; have := hr i x hx; rw [← this]; congr 1; omega

theorem run_load_sc {t : TypeId} {b o : Nat} {v : Value} (ha : (isAgg t).run P w = .ok false w) (h : rd (hp w) b o = some v) :
    (Instr.loadAt t (.pointer (some ⟨b, o, none⟩))).run P w = .ok v w := by
  simp [Instr.loadAt, Instr.sureAddr, loadVar, ha, cell_of_rd h]

theorem run_load_st {t : TypeId} {b o : Nat} {vs : List Value} {i : TypeInfo} {fs : Array Field} (hu : P.underlying t = some (.struct fs)) (hi : P.info? t = some i) (hs : i.size = vs.length)
    (h : ∀ i v, vs[i]? = some v → rd (hp w) b (o + i) = some v) : (Instr.loadAt t (.pointer (some ⟨b, o, none⟩))).run P w = .ok (.agg ⟨vs⟩) w := by
  have ha : (isAgg t).run P w = .ok true w := by simp [isAgg, run_underlying hu]
  have hc : (loadCells ⟨b, o, none⟩ vs.length).run P w = .ok ⟨vs⟩ w := by
    have := run_loadCells_list (P := P) (w := w) ⟨b, o, none⟩ vs (fun j v hj => by rw [add_off]; exact cell_of_rd (h j v hj))
    exact this
  simp [Instr.loadAt, Instr.sureAddr, loadVar, ha, run_sizeOf hi, hs, hc]

theorem run_fieldPlace {b o : Nat} {f : Field} {i : TypeInfo} (hi : P.info? f.type = some i) (hs : i.size ≠ 0) : (fieldPlace ⟨b, o, none⟩ f).run P w = .ok ⟨b, o + f.offset, none⟩ w := by
  simp [fieldPlace, run_sizeOf hi, hs, add_off]

theorem TSpec.size {t : TypeId} {e : TE} (h : TSpec P t e) : ∃ i, P.info? t = some i ∧ i.size = e.size ∧ i.bytes = e.bytes := by
  obtain ⟨_, _, i, d, hi, hu, hs, hb, h⟩ := h
  exact ⟨i, hi, hs, hb⟩

end
end Go.V
