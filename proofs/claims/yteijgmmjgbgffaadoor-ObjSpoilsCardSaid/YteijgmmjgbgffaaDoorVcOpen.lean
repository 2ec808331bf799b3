/- Values of Go's types as they came in: what they read as, where they lie. No program in sight. -/
import Derived.Test.YteijgmmjgbgffaaDoorVcMem
import Derived.Test.YteijgmmjgbgffaaDoorVcLift
import Derived.Deep.Slices
import Derived.DataReads
namespace Go.V
open Go.ChangeShapes Go.WideShapes Go.ChangeAt Go.RowKit Go.WideElems Go.WideMaps

/-- How a value lies in memory: its cells, and what stands behind them. -/
structure Enc (α : Type) where
  n : Nat
  rep : Hp → List Value → α → Prop
  len : ∀ {H cs x}, rep H cs x → cs.length = n
  cell : ∀ {H cs x v}, rep H cs x → v ∈ cs → isCell v = true
  le : ∀ {H H' cs x}, rep H cs x → Le H H' → rep H' cs x
def Enc.int (k : IntKind) : Enc Int := ⟨1, fun _ cs x => cs = [.int k x] ∧ (Lit.int k x).wf = true, fun h => by rw [h.1]; rfl, fun h hv => by rw [h.1] at hv; simp at hv; subst hv; rfl, fun h _ => h⟩
def Enc.bool : Enc Bool := ⟨1, fun _ cs x => cs = [.bool x], fun h => by rw [h]; rfl, fun h hv => by rw [h] at hv; simp at hv; subst hv; rfl, fun h _ => h⟩
def Enc.str : Enc ByteArray := ⟨1, fun _ cs x => cs = [.string x] ∧ x.size ≤ maxLen, fun h => by rw [h.1]; rfl, fun h hv => by rw [h.1] at hv; simp at hv; subst hv; rfl, fun h _ => h⟩
def Enc.pair {α β : Type} (E : Enc α) (F : Enc β) : Enc (α × β) :=
  ⟨E.n + F.n, fun H cs x => ∃ c1 c2, cs = c1 ++ c2 ∧ E.rep H c1 x.1 ∧ F.rep H c2 x.2, fun ⟨c1, c2, e, h1, h2⟩ => by rw [e, List.length_append, E.len h1, F.len h2], fun ⟨c1, c2, e, h1, h2⟩ hv => by rw [e] at hv; exact (List.mem_append.1 hv).elim (E.cell h1) (F.cell h2), fun ⟨c1, c2, e, h1, h2⟩ hle => ⟨c1, c2, e, E.le h1 hle, F.le h2 hle⟩⟩
def Enc.rows {α : Type} (E : Enc α) (H : Hp) (p : Option Addr) (l c : Nat) (xs : List α) : Prop :=
  l = xs.length ∧ l ≤ c ∧ c ≤ maxLen ∧ (0 < c → ∃ b o, p = some ⟨b, o, none⟩) ∧
    ∀ b o, p = some ⟨b, o, none⟩ → ∀ i (h : i < xs.length), ∃ cs, E.rep H cs xs[i] ∧ ∀ j v, cs[j]? = some v → rd H b (o + i * E.n + j) = some v
theorem Enc.rows.le {α : Type} {E : Enc α} {H H' : Hp} {p : Option Addr} {l c : Nat} {xs : List α} (h : E.rows H p l c xs) (hle : Le H H') : E.rows H' p l c xs :=
  ⟨h.1, h.2.1, h.2.2.1, h.2.2.2.1, fun b o e i hi => by
    obtain ⟨cs, h1, h2⟩ := h.2.2.2.2 b o e i hi
    exact ⟨cs, E.le h1 hle, fun j v hj => hle.rd (h2 j v hj)⟩⟩
def Enc.sl {α : Type} (E : Enc α) : Enc (List α) :=
  ⟨1, fun H cs xs => ∃ p l c, cs = [.slice p l c] ∧ E.rows H p l c xs, fun ⟨_, _, _, e, _⟩ => by rw [e]; rfl, fun ⟨_, _, _, e, _⟩ hv => by rw [e] at hv; simp at hv; subst hv; rfl, fun ⟨p, l, c, e, h⟩ hle => ⟨p, l, c, e, h.le hle⟩⟩

/-- What is read at type t is a value as E says. -/
def Opens [Sp] {α : Type} (P : Program) (t : TypeId) (E : Enc α) : Prop :=
  P.cellsOf t = E.n ∧ ∀ (Ht : Type) (enc : TypeId × Value → Ht) (W : World) (fuel : Nat) (cs : List Value) (d : DataW Ht) (p before : List MemPlace),
    DataW.trod enc P W 0 (fun _ => true) true fuel t cs = some (d, p) → (∀ x ∈ p, x ∈ before) → W.noneFrozen before → ∃ x, E.rep (hp W) cs x

section
set_option linter.unusedSectionVars false
variable [Sp] {P : Program} {t e : TypeId}
theorem opens_int {k : IntKind} (ht : P.underlying t = some (.int k)) (hc : P.cellsOf t = 1) : Opens P t (Enc.int k) :=
  ⟨hc, fun _ _ _ _ _ _ _ _ h _ _ => by obtain ⟨n, h1, _, h3⟩ := DataW.trod_int ht h; exact ⟨n, h1, h3⟩⟩
theorem opens_bool (ht : P.underlying t = some .bool) (hc : P.cellsOf t = 1) : Opens P t Enc.bool :=
  ⟨hc, fun _ _ _ _ _ _ _ _ h _ _ => by obtain ⟨n, h1, _⟩ := DataW.trod_bool ht h; exact ⟨n, h1⟩⟩
theorem opens_str (ht : P.underlying t = some .string) (hc : P.cellsOf t = 1) : Opens P t Enc.str :=
  ⟨hc, fun _ _ _ _ _ _ _ _ h _ _ => by obtain ⟨n, h1, _, h3⟩ := DataW.trod_string ht h; exact ⟨n, h1, h3⟩⟩

theorem opens_rows {α : Type} {E : Enc α} (hpos : 0 < E.n) (ht : P.underlying t = some (.slice e)) (hE : Opens P e E) {Ht : Type} {enc : TypeId × Value → Ht} {W : World} {fuel : Nat} {cs : List Value} {d : DataW Ht} {p before : List MemPlace}
    (h : DataW.trod enc P W 0 (fun _ => true) true fuel t cs = some (d, p)) (hsub : ∀ x ∈ p, x ∈ before) (hno : W.noneFrozen before) : ∃ q l c xs, cs = [.slice q l c] ∧ E.rows (hp W) q l c xs := by
  rcases Deep.open_slice ht h with ⟨hcs, hx⟩ | ⟨a, len, cap, m, n, D, Pl, hcs, _, hl, hm, hmm, hx, hel⟩
  · exact ⟨none, 0, 0, [], hcs, rfl, Nat.le_refl _, by decide, fun h => absurd h (by decide), fun b o e => by cases e⟩
  · simp only [if_true] at hmm
    subst hmm
    simp only [Prod.mk.injEq] at hx
    have hp := hx.2
    have hE1 := hE.1
    by_cases hm0 : m = 0
    · subst hm0
      have : len = 0 := by omega
      subst this
      exact ⟨some a, 0, 0, [], hcs, rfl, Nat.le_refl _, by decide, fun h => absurd h (by decide), fun b o _ i hi => by simp at hi⟩
    · have plain : ∃ b o, a = ⟨b, o, none⟩ := by
        obtain ⟨cs', h1, _⟩ := hel 0 (by omega)
        obtain ⟨_, h3, h4⟩ := World.cells?_some h1
        have h5 := h4 0 (by omega)
        rw [Nat.zero_mul, add_zero', add_zero', List.getElem?_eq_getElem (by omega)] at h5
        exact ⟨_, _, spot_none h5⟩
      obtain ⟨b, o, rfl⟩ := plain
      have hcell0 : ∀ i, i < m → ∀ j, j < P.cellsOf e → MemPlace.cell b (o + (i * P.cellsOf e + j)) ∈ before := fun i hi j hj => by
        refine hsub _ ?_
        rw [hp]
        refine List.mem_append_left _ (row_mem (a := ⟨b, o, none⟩) ?_)
        have : (i + 1) * P.cellsOf e ≤ m * P.cellsOf e := Nat.mul_le_mul_right _ hi
        rw [Nat.add_mul] at this; omega
      have each : ∀ i, i < m → ∃ x, ∃ cs, E.rep (Go.V.hp W) cs x ∧ ∀ j v, cs[j]? = some v → rd (Go.V.hp W) b (o + i * E.n + j) = some v := fun i hi => by
        obtain ⟨cs', h1, h2⟩ := hel i hi
        obtain ⟨_, h3, h4⟩ := World.cells?_some h1
        obtain ⟨x, hx⟩ := hE.2 Ht enc W n cs' (D i) (Pl i) before h2 (fun x hx' => hsub _ (by rw [hp]; exact List.mem_append_right _ (List.mem_flatMap.2 ⟨i, List.mem_range.2 hi, hx'⟩))) hno
        refine ⟨x, cs', hx, fun j v hj => ?_⟩
        have hjl : j < P.cellsOf e := by
          rcases Nat.lt_or_ge j cs'.length with h | h
          · omega
          · rw [List.getElem?_eq_none h] at hj; cases hj
        have h5 := h4 j hjl
        rw [hj, add_off, add_off] at h5
        rw [← hE1]
        refine rd_of_cell h5 ?_ (E.cell hx (List.mem_of_getElem? hj))
        have := hcell0 i hi j hjl
        rw [← Nat.add_assoc] at this
        exact hno _ _ this
      have pick : ∃ g : Nat → α, ∀ i, i < m → ∃ cs, E.rep (Go.V.hp W) cs (g i) ∧ ∀ j v, cs[j]? = some v → rd (Go.V.hp W) b (o + i * E.n + j) = some v := by
        obtain ⟨x0, _⟩ := each 0 (by omega)
        refine ⟨fun i => if h : i < m then Classical.choose (each i h) else x0, fun i hi => ?_⟩
        simp only [hi, dif_pos]
        exact Classical.choose_spec (each i hi)
      obtain ⟨g, hg⟩ := pick
      refine ⟨_, len, m, (List.range len).map g, hcs, by simp, hl, hm, fun _ => ⟨b, o, rfl⟩, fun b' o' e i hi => ?_⟩
      simp only [Option.some.injEq, Addr.mk.injEq, and_true] at e
      obtain ⟨rfl, rfl⟩ := e
      simp at hi
      simp only [List.getElem_map, List.getElem_range]
      exact hg i (by omega)
theorem opens_sl {α : Type} {E : Enc α} (hpos : 0 < E.n) (ht : P.underlying t = some (.slice e)) (hc : P.cellsOf t = 1) (hE : Opens P e E) : Opens P t E.sl :=
  ⟨hc, fun _ _ _ _ _ _ _ _ h hsub hno => by
    obtain ⟨q, l, c, xs, h1, h2⟩ := opens_rows hpos ht hE h hsub hno
    exact ⟨xs, q, l, c, h1, h2⟩⟩

/-- The fields from an offset on. -/
def OpensF [Sp] {α : Type} (P : Program) (fs : List Field) (off : Nat) (E : Enc α) : Prop :=
  ∀ (Ht : Type) (enc : TypeId × Value → Ht) (W : World) (fuel : Nat) (cs : List Value) (before : List MemPlace), cs.length = off + E.n →
    (∀ f ∈ fs, ∃ d p, DataW.trod enc P W 0 (fun _ => true) true fuel f.type ((cs.drop f.offset).take (P.cellsOf f.type)) = some (d, p) ∧ ∀ x ∈ p, x ∈ before) → W.noneFrozen before → ∃ x, E.rep (hp W) (cs.drop off) x
theorem opensF_one {α : Type} {E : Enc α} {f : Field} {off : Nat} (ho : f.offset = off) (hE : Opens P f.type E) : OpensF P [f] off E := by
  intro Ht enc W fuel cs before hl h hno
  obtain ⟨d, p, h1, h2⟩ := h f (by simp)
  obtain ⟨x, hx⟩ := hE.2 Ht enc W fuel _ d p before h1 h2 hno
  refine ⟨x, ?_⟩
  rw [ho, hE.1, List.take_of_length_le (by rw [List.length_drop]; omega)] at hx
  exact hx
theorem opensF_cons {α β : Type} {E : Enc α} {F : Enc β} {f : Field} {fs : List Field} {off off' : Nat} (ho : f.offset = off) (hE : Opens P f.type E) (ho' : off' = off + E.n) (hF : OpensF P fs off' F) : OpensF P (f :: fs) off (E.pair F) := by
  intro Ht enc W fuel cs before hl h hno
  obtain ⟨d, p, h1, h2⟩ := h f (by simp)
  obtain ⟨x, hx⟩ := hE.2 Ht enc W fuel _ d p before h1 h2 hno
  have hl' : cs.length = off + (E.n + F.n) := hl
  obtain ⟨y, hy⟩ := hF Ht enc W fuel cs before (by omega) (fun g hg => h g (by simp [hg])) hno
  refine ⟨(x, y), _, _, ?_, hx, hy⟩
  rw [ho, hE.1, ho']
  rw [← List.drop_drop]
  exact (List.take_append_drop E.n (cs.drop off)).symm
theorem opens_st {α : Type} {E : Enc α} {fs : List Field} (ht : P.underlying t = some (.struct ⟨fs⟩)) (hc : P.cellsOf t = E.n) (hF : OpensF P fs 0 E) : Opens P t E := by
  refine ⟨hc, fun Ht enc W fuel cs d p before h hsub hno => ?_⟩
  obtain ⟨xs, n, rfl, hx, hl, hxl, hf⟩ := DataW.trod_struct ht h
  simp only [Prod.mk.injEq] at hx
  obtain ⟨x, hx'⟩ := hF Ht enc W n cs before (by omega) (fun f hf' => by
    obtain ⟨i, hi, rfl⟩ := List.mem_iff_getElem.1 hf'
    have h1 := hf i fs[i] (by simp [hi])
    have hi' : i < xs.length := by rw [hxl]; simpa using hi
    rw [List.getElem?_eq_getElem hi'] at h1
    refine ⟨_, _, h1, fun x hx' => hsub x ?_⟩
    rw [hx.2]
    exact List.mem_flatMap.2 ⟨_, List.getElem_mem hi', hx'⟩) hno
  exact ⟨x, by simpa using hx'⟩
theorem openE {α : Type} {E : Enc α} {H : Type} {enc : TypeId × Value → H} {W : World} {v : Value} {d : DataW H} {p before : List MemPlace} (hE : Opens P t E) (h : DataW.Trod enc P W 0 (fun _ => true) true t v d p) (hsub : ∀ x ∈ p, x ∈ before) (hno : W.noneFrozen before) :
    ∃ x, E.rep (hp W) v.cells.toList x := by
  obtain ⟨fuel, hf⟩ := h
  exact hE.2 H enc W fuel _ d p before hf hsub hno
/-- A slice that came in. -/
theorem openSl {α : Type} {E : Enc α} {H : Type} {enc : TypeId × Value → H} {W : World} {base : Nat} {v : Value} {d : DataW H} {p before : List MemPlace} (hpos : 0 < E.n) (ht : P.underlying t = some (.slice e)) (hE : Opens P e E)
    (hval : Value.okWide P W .any base t v) (h : DataW.Trod enc P W 0 (fun _ => true) true t v d p) (hsub : ∀ x ∈ p, x ∈ before) (hno : W.noneFrozen before) :
    ∃ q l c xs, v = .slice q l c ∧ E.rows (hp W) q l c xs := by
  obtain ⟨a0, len, cap, rfl⟩ := okWide_slice ht hval
  obtain ⟨fuel, hf⟩ := h
  obtain ⟨q, l, c, xs, h1, h2⟩ := opens_rows hpos ht hE hf hsub hno
  simp only [Value.cells, List.cons.injEq, and_true] at h1
  exact ⟨q, l, c, xs, h1, h2⟩
end

/-- A struct that came in. -/
theorem openSt [Sp] {P : Program} {t : TypeId} {α : Type} {E : Enc α} {H : Type} {enc : TypeId × Value → H} {W : World} {base : Nat} {v : Value} {d : DataW H} {p before : List MemPlace} {fs : Array Field} (ht : P.underlying t = some (.struct fs)) (hE : Opens P t E)
    (hval : Value.okWide P W .any base t v) (h : DataW.Trod enc P W 0 (fun _ => true) true t v d p) (hsub : ∀ x ∈ p, x ∈ before) (hno : W.noneFrozen before) : ∃ cs x, v = .agg ⟨cs⟩ ∧ E.rep (hp W) cs x := by
  have hv : ∃ cs : Array Value, v = .agg cs := by
    unfold Value.okWide at hval
    rw [ht] at hval
    obtain ⟨cs, h, _⟩ := hval
    exact ⟨cs, h⟩
  obtain ⟨cs, rfl⟩ := hv
  obtain ⟨x, hx⟩ := openE hE h hsub hno
  exact ⟨cs.toList, x, rfl, hx⟩
theorem trodAll_six {H : Type} {enc : TypeId × Value → H} {P : Program} {w : World} {base : Nat} {spare : Nat → Bool} {held : Bool} {t0 t1 t2 t3 t4 t5 : TypeId} {args : Array Value} {ds : List (DataW H)} {ps : List MemPlace} (h : DataW.TrodAll enc P w base spare held [t0, t1, t2, t3, t4, t5] args.toList ds ps) :
    ∃ v0 v1 v2 v3 v4 v5 d0 d1 d2 d3 d4 d5 p0 p1 p2 p3 p4 p5, args = #[v0, v1, v2, v3, v4, v5] ∧ ds = [d0, d1, d2, d3, d4, d5] ∧ ps = p0 ++ p1 ++ p2 ++ p3 ++ p4 ++ p5 ∧ DataW.Trod enc P w base spare held t0 v0 d0 p0 ∧ DataW.Trod enc P w base spare held t1 v1 d1 p1 ∧ DataW.Trod enc P w base spare held t2 v2 d2 p2 ∧ DataW.Trod enc P w base spare held t3 v3 d3 p3 ∧ DataW.Trod enc P w base spare held t4 v4 d4 p4 ∧ DataW.Trod enc P w base spare held t5 v5 d5 p5 := by
  obtain ⟨v0, vs, d0, ds0, p0, q0, hargs, rfl, rfl, h0, r0⟩ := trodAll_cons h
  obtain ⟨v1, vs1, d1, ds1, p1, q1, rfl, rfl, rfl, h1, r1⟩ := trodAll_cons r0
  obtain ⟨v2, vs2, d2, ds2, p2, q2, rfl, rfl, rfl, h2, r2⟩ := trodAll_cons r1
  obtain ⟨v3, vs3, d3, ds3, p3, q3, rfl, rfl, rfl, h3, r3⟩ := trodAll_cons r2
  obtain ⟨v4, vs4, d4, ds4, p4, q4, rfl, rfl, rfl, h4, r4⟩ := trodAll_cons r3
  obtain ⟨v5, vs5, d5, ds5, p5, q5, rfl, rfl, rfl, h5, r5⟩ := trodAll_cons r4
  obtain ⟨rfl, rfl, rfl⟩ := trodAll_nil r5
  exact ⟨v0, v1, v2, v3, v4, v5, d0, d1, d2, d3, d4, d5, p0, p1, p2, p3, p4, p5, by cases args; simp_all, rfl, by simp, h0, h1, h2, h3, h4, h5⟩

theorem trodAll_five {H : Type} {enc : TypeId × Value → H} {P : Program} {w : World} {base : Nat} {spare : Nat → Bool} {held : Bool} {t0 t1 t2 t3 t4 : TypeId} {args : Array Value} {ds : List (DataW H)} {ps : List MemPlace} (h : DataW.TrodAll enc P w base spare held [t0, t1, t2, t3, t4] args.toList ds ps) :
    ∃ v0 v1 v2 v3 v4 d0 d1 d2 d3 d4 p0 p1 p2 p3 p4, args = #[v0, v1, v2, v3, v4] ∧ ds = [d0, d1, d2, d3, d4] ∧ ps = p0 ++ p1 ++ p2 ++ p3 ++ p4 ∧ DataW.Trod enc P w base spare held t0 v0 d0 p0 ∧ DataW.Trod enc P w base spare held t1 v1 d1 p1 ∧ DataW.Trod enc P w base spare held t2 v2 d2 p2 ∧ DataW.Trod enc P w base spare held t3 v3 d3 p3 ∧ DataW.Trod enc P w base spare held t4 v4 d4 p4 := by
  obtain ⟨v0, vs, d0, ds0, p0, q0, hargs, rfl, rfl, h0, r0⟩ := trodAll_cons h
  obtain ⟨v1, vs1, d1, ds1, p1, q1, rfl, rfl, rfl, h1, r1⟩ := trodAll_cons r0
  obtain ⟨v2, vs2, d2, ds2, p2, q2, rfl, rfl, rfl, h2, r2⟩ := trodAll_cons r1
  obtain ⟨v3, vs3, d3, ds3, p3, q3, rfl, rfl, rfl, h3, r3⟩ := trodAll_cons r2
  obtain ⟨v4, vs4, d4, ds4, p4, q4, rfl, rfl, rfl, h4, r4⟩ := trodAll_cons r3
  obtain ⟨rfl, rfl, rfl⟩ := trodAll_nil r4
  exact ⟨v0, v1, v2, v3, v4, d0, d1, d2, d3, d4, p0, p1, p2, p3, p4, by cases args; simp_all, rfl, by simp, h0, h1, h2, h3, h4⟩

/-! ### What such rows are to contracts -/
theorem Enc.rows.sl {α : Type} {E : Enc α} {f : α → Value} (h1 : E.n = 1) (hf : ∀ {H cs x}, E.rep H cs x → cs = [f x]) {H : Hp} {p : Option Addr} {l c : Nat} {xs : List α} (h : E.rows H p l c xs) : Sl f H p l c xs := by
  refine ⟨h.1, h.2.1, ?_⟩
  by_cases hn : xs = []
  · exact .inl hn
  · right
    have hpos : 0 < xs.length := List.length_pos_iff.2 hn
    obtain ⟨b, o, hp⟩ := h.2.2.2.1 (by have := h.1; have := h.2.1; omega)
    refine ⟨b, o, hp, fun i hi => ?_⟩
    obtain ⟨cs, h2, h3⟩ := h.2.2.2.2 b o hp i hi
    have := h3 0 (f xs[i]) (by rw [hf h2]; rfl)
    rwa [h1, Nat.mul_one, Nat.add_zero] at this
theorem Enc.rows.ints {k : IntKind} {H : Hp} {p : Option Addr} {l c : Nat} {xs : List Int} (h : (Enc.int k).rows H p l c xs) : Sl (.int k) H p l c xs := h.sl (E := Enc.int k) rfl fun h => (show _ ∧ _ from h).1
theorem Enc.rows.bools {H : Hp} {p : Option Addr} {l c : Nat} {xs : List Bool} (h : Enc.bool.rows H p l c xs) : Sl .bool H p l c xs := h.sl (E := Enc.bool) rfl fun h => h
theorem Enc.rows.strs {H : Hp} {p : Option Addr} {l c : Nat} {xs : List ByteArray} (h : Enc.str.rows H p l c xs) : Sl .string H p l c xs := h.sl (E := Enc.str) rfl fun h => (show _ ∧ _ from h).1
theorem Enc.rows.each {α : Type} {E : Enc α} {H : Hp} {p : Option Addr} {l c : Nat} {xs : List α} (h : E.rows H p l c xs) : ∀ x ∈ xs, ∃ cs, E.rep H cs x := by
  intro x hx
  obtain ⟨i, hi, rfl⟩ := List.mem_iff_getElem.1 hx
  obtain ⟨b, o, hp⟩ := h.2.2.2.1 (by have := h.1; have := h.2.1; omega)
  obtain ⟨cs, h2, _⟩ := h.2.2.2.2 b o hp i hi
  exact ⟨cs, h2⟩
theorem Enc.rows.wf {k : IntKind} {H : Hp} {p : Option Addr} {l c : Nat} {xs : List Int} (h : (Enc.int k).rows H p l c xs) : ∀ x ∈ xs, (Lit.int k x).wf = true := fun x hx => by obtain ⟨_, h⟩ := h.each x hx; exact h.2
theorem Enc.rows.pairs {H : Hp} {p : Option Addr} {l c : Nat} {xs : List (Int × Int)} (h : ((Enc.int .i64).pair (Enc.int .i64)).rows H p l c xs) : Sn 2 pairC H p l c xs := by
  refine ⟨h.1, h.2.1, ?_⟩
  by_cases hn : xs = []
  · exact .inl hn
  · right
    have hpos : 0 < xs.length := List.length_pos_iff.2 hn
    obtain ⟨b, o, hp⟩ := h.2.2.2.1 (by have := h.1; have := h.2.1; omega)
    refine ⟨b, o, hp, fun i hi j v e => ?_⟩
    obtain ⟨cs, ⟨c1, c2, h2, h3, h4⟩, h5⟩ := h.2.2.2.2 b o hp i hi
    refine h5 j v ?_
    rw [h2, (show _ ∧ _ from h3).1, (show _ ∧ _ from h4).1]
    exact e
theorem Enc.rows.pairsWf {H : Hp} {p : Option Addr} {l c : Nat} {xs : List (Int × Int)} (h : ((Enc.int .i64).pair (Enc.int .i64)).rows H p l c xs) : ∀ x ∈ xs, (Lit.int .i64 x.1).wf = true ∧ (Lit.int .i64 x.2).wf = true := fun x hx => by
  obtain ⟨_, c1, c2, _, h3, h4⟩ := h.each x hx
  exact ⟨(show _ ∧ _ from h3).2, (show _ ∧ _ from h4).2⟩
theorem Enc.rows.pt {α : Type} {E : Enc α} {H : Hp} {p : Option Addr} {l c : Nat} {xs : List α} (h : E.rows H p l c xs) (hc : 0 < c) : PtOk p := .inr (h.2.2.2.1 hc)
end Go.V
