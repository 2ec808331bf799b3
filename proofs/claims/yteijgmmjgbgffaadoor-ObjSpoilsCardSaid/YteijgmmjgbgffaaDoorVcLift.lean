/- From heaps back to worlds: how a contract over heaps becomes a row of the kind 'it is true, and what came in reads as it did'. -/
import Derived.Test.YteijgmmjgbgffaaDoorVcLaws
import Derived.ProofKit
import Derived.Deep.SlicePairs
namespace Go.V
open Go.ChangeShapes Go.WideShapes Go.ChangeAt Go.RowKit Go.WideElems Go.WideMaps

theorem wf_u8 {n : Int} (h : (Lit.int .u8 n).wf = true) : 0 ≤ n ∧ n ≤ 255 := by
  simp [Lit.wf, IntKind.min, IntKind.max, IntKind.signed, IntKind.bits] at h; omega
theorem wf_i64 {n : Int} (h : (Lit.int .i64 n).wf = true) : -9223372036854775808 ≤ n ∧ n ≤ 9223372036854775807 := by
  simp [Lit.wf, IntKind.min, IntKind.max, IntKind.signed, IntKind.bits] at h; omega
structure Kept (w w' : World) : Prop where
  below : Below w.heap.size w w'
theorem Kept.fz {w w' : World} (h : Kept w w') (a : Addr) (ha : a.block < w.heap.size) : w'.frozen? a = w.frozen? a := by
  unfold World.frozen?
  rw [h.below.block _ ha]

theorem CallH.calls [Sp] {P : Program} {k : FuncId} {args : List Value} {w : World} {K : Value → Hp → Prop} {f : Func} (h : CallH P k args (hp w) K) (hf : P.funcs[k]? = some f) (hb : f.body.isSome = true) :
    Calls P k ⟨args⟩ w fun e w' => ∃ v, e = .returned v ∧ K v (hp w') ∧ Ge 0 w w' := by
  rcases h w rfl with h | ⟨⟨fn, h1, h2⟩, _⟩
  · exact h.2
  · rw [hf] at h1
    cases h1
    rw [h2] at hb; cases hb
theorem calls_true [Sp] {P : Program} {k : FuncId} {args : List Value} {w : World} {f : Func} (h : CallH P k args (hp w) fun v H' => liftB v fun r => r = true ∧ Le (hp w) H') (hf : P.funcs[k]? = some f) (hb : f.body.isSome = true) :
    Calls P k ⟨args⟩ w fun e w' => e = .returned (.bool true) ∧ Kept w w' :=
  (h.calls hf hb).mono fun _ _ ⟨v, he, hv, hg⟩ => by
    cases v <;> first | exact hv.elim | exact ⟨by rw [he, hv.1], ⟨belowOf hg hv.2⟩⟩

section
variable {H : Type} {enc : TypeId × Value → H} {P : Program}
theorem trodAll_stays (hl : laidOutB P = true) {W W' : World} {sp : Nat → Bool} : ∀ {ts : List TypeId} {vs : List Value} {ds : List (DataW H)} {ps : List MemPlace}, (∀ t ∈ ts, P.readableRec t = true ∧ t < P.types.size) →
    DataW.TrodAll enc P W 0 (fun _ => true) true ts vs ds ps → Below W.heap.size W W' → (∀ x ∈ ps, x.block < W.heap.size) → (∀ x ∈ ps, sp x.block = true) → DataW.TrodAll enc P W' 0 sp true ts vs ds ps
  | [], [], [], _, _, h, _, _, _ => h
  | [], [], _ :: _, _, _, h, _, _, _ => h.elim
  | [], _ :: _, _, _, _, h, _, _, _ => h.elim
  | _ :: _, [], _, _, _, h, _, _, _ => h.elim
  | _ :: _, _ :: _, [], _, _, h, _, _, _ => h.elim
  | t :: ts, v :: vs, d :: ds, ps, ht, ⟨p, q, h1, h2, e⟩, hb, hlt, hs =>
    ⟨p, q, Trod_stays hl (ht t (by simp)).1 (ht t (by simp)).2 h1 (fun x hx => hb.same (hlt x (by rw [e]; exact List.mem_append_left _ hx))) (fun x hx => hs x (by rw [e]; exact List.mem_append_left _ hx)),
      trodAll_stays hl (fun t ht' => ht t (by simp [ht'])) h2 hb (fun x hx => hlt x (by rw [e]; exact List.mem_append_right _ hx)) (fun x hx => hs x (by rw [e]; exact List.mem_append_right _ hx)), e⟩

/-- What is told of a call that leaves what came in as it was. -/
theorem post_same {f : Func} {s : ChangeSpec} {apart fresh handsOn again : Bool} {W W' : World} {args : Array Value} {v : Value} {ds gs : List (DataW H)} {before pa pv : List MemPlace}
    (hW : DataW.Whole enc P f.params.toList s.vars apart W args.toList ds gs before)
    (hres : ∀ (b : Nat) (sp : Nat → Bool) (hd : Bool), DataW.TrodAll enc P W' b sp hd f.resultTypes.toList (v.resultList f.resultTypes.size) (s.fn H (ds ++ gs)).results [])
    (hargs : ∀ sp : Nat → Bool, (∀ p ∈ before, sp p.block = true) → DataW.TrodAll enc P W' 0 sp true f.params.toList args.toList (s.fn H (ds ++ gs)).args pa)
    (hvars : ∀ sp : Nat → Bool, (∀ p ∈ before, sp p.block = true) → DataW.TrodVars enc P W' sp s.vars (s.fn H (ds ++ gs)).vars pv)
    (hps : before = pa ++ pv) (hk : W.keptBut W' (· ∈ before)) (hfz : ∀ x ∈ before, ∀ a : Addr, a.block = x.block → W'.frozen? a = W.frozen? a)
    (hok : ∀ (j : Nat) (t : TypeId) (r : Value), f.resultTypes[j]? = some t → (v.resultList f.resultTypes.size)[j]? = some r → Value.okWide P W' .any 0 t r) :
    s.post enc P f apart fresh handsOn again W args v W' := by
  have all : ∀ p ∈ before, (fun b => decide (b < W.heap.size)) p.block = true := fun p hp => decide_eq_true (hW.lt p hp)
  have one : ∀ p ∈ before, (fun _ : Nat => true) p.block = true := fun _ _ => rfl
  refine ⟨ds, gs, before, [], pa, pv, hW, hres _ _ _, hargs _ all, hvars _ all, World.keptBut_mono (fun p hp => ⟨hp, .inr (List.mem_append.1 (hps ▸ hp))⟩) hk, fun _ => ⟨hok, _, _, ([] ++ pa) ++ pv, ⟨[] ++ pa, pv, trodAll_append (hargs _ one) (hres _ _ _), hvars _ one, rfl, ?_, ?_⟩, ?_⟩⟩
  all_goals rw [List.nil_append, ← hps]
  · obtain ⟨_, _, _, _, _, hz, _⟩ := hW
    intro b off hp
    rw [hfz _ hp _ rfl]
    exact hz b off hp
  · obtain ⟨_, _, _, _, _, _, hn⟩ := hW
    exact hn
  · intro p hp _
    exact hp

/-- THE ROW's POST, for what only reads and returns true. -/
theorem post_true (hl : laidOutB P = true) {f : Func} {s : ChangeSpec} {apart fresh handsOn again : Bool} {W W' : World} {args : Array Value} {ds gs : List (DataW H)} {before : List MemPlace}
    (hW : DataW.Whole enc P f.params.toList s.vars apart W args.toList ds gs before) (hts0 : (f.params.toList.all fun t => P.readableRec t && decide (t < P.types.size)) = true) (hv : s.vars = [])
    (hfn : s.fn H ds = { results := [.lit (.bool true)], args := ds }) {bt : TypeId} (hr : f.resultTypes = #[bt]) (hb : P.underlying bt = some .bool) (hk : Kept W W') :
    s.post enc P f apart fresh handsOn again W args (.bool true) W' := by
  have hW' := hW
  have hts : ∀ t ∈ f.params.toList, P.readableRec t = true ∧ t < P.types.size := fun t ht => by
    have := List.all_eq_true.1 hts0 t ht
    simpa using this
  obtain ⟨p, q, hA, hV, e, hfz, hnd⟩ := hW
  have hlt : ∀ x ∈ before, x.block < W.heap.size := fun x hx => hW'.lt x hx
  rw [hv] at hV
  obtain ⟨rfl, rfl⟩ := trodVars_none hV
  rw [List.append_nil] at e
  subst e
  have hfn : s.fn H (ds ++ []) = { results := [.lit (.bool true)], args := ds } := by rw [List.append_nil]; exact hfn
  refine post_same (pa := before) (pv := []) hW' ?_ ?_ ?_ (by simp) ?_ (fun x hx a ha => hk.fz a (by rw [ha]; exact hlt x hx)) ?_
  · intro b sp hd
    rw [hfn, hr]
    exact trodAll_mk1 ⟨1, by simp [DataW.trod, hb, Value.cells]⟩
  · intro sp hs
    rw [hfn]
    exact trodAll_stays hl hts hA hk.below hlt hs
  · intro sp _
    rw [hv, hfn]
    rfl
  · refine ⟨hk.below.os, hk.below.output, fun i hi => ?_⟩
    rw [hk.below.block i hi]
    cases h : W.heap[i]? with
    | none => simp
    | some o => cases o <;> simp
  · intro j t r hj hr'
    rw [hr] at hj hr'
    match j, hj, hr' with
    | 0, hj, hr' =>
      simp [Value.resultList] at hj hr'
      subst hj; subst hr'
      exact okWide_bool_mk hb true
    | j + 1, hj, _ => simp at hj

theorem rd_of_cell [Sp] {w : World} {b o : Nat} {v : Value} (h : w.cell? ⟨b, o, none⟩ = some v) (hf : w.frozen? ⟨b, o, none⟩ = false) (hv : isCell v = true) : rd (hp w) b o = some v := by
  unfold World.cell? at h
  unfold World.frozen? at hf
  simp only [rd, hp]
  cases hb : w.heap[b]? with
  | none => simp [hb] at h
  | some ob =>
    cases ob with
    | cells c t fz =>
      obtain ⟨lo, hi⟩ := fz
      simp only [hb, Option.isSome_none, Bool.false_eq_true, if_false] at h
      simp only [hb, Bool.and_eq_false_imp, decide_eq_true_eq, decide_eq_false_iff_not] at hf
      simp only [Option.bind_some, objB]
      rw [mkl_get, maskL_get]
      have : c.toList[o]? = some v := by simpa using h
      rw [this, Option.map_some, Option.bind_some, if_neg (by omega), emb_notT (isCell_notT hv)]
      exact nm_cell hv
    | _ => simp [hb] at h

theorem spot_none {w : World} {a : Addr} {v : Value} (h : w.cell? a = some v) : a = ⟨a.block, a.off, none⟩ := by
  obtain ⟨b, o, s⟩ := a
  unfold World.cell? at h
  cases s with
  | none => rfl
  | some x => split at h <;> simp at h

theorem add_zero' (a : Addr) : a.add 0 = a := by
  obtain ⟨b, o, s⟩ := a
  unfold Addr.add
  split <;> simp_all

theorem row_mem {a : Addr} {n i : Nat} (h : i < n) : MemPlace.cell a.block (a.off + i) ∈ MemPlace.row a n := by
  simp only [MemPlace.row, List.mem_map, List.mem_range]
  exact ⟨i, h, rfl⟩

/-- A slice of numbers that came in. -/
theorem open_slI [Sp] {t e : TypeId} {k : IntKind} {W : World} {base : Nat} {v : Value} {d : DataW H} {p before : List MemPlace} (ht : P.underlying t = some (.slice e)) (he : P.underlying e = some (.int k)) (hc : P.cellsOf e = 1)
    (hval : Value.okWide P W .any base t v) (h : DataW.Trod enc P W 0 (fun _ => true) true t v d p) (hsub : ∀ x ∈ p, x ∈ before) (hno : W.noneFrozen before) :
    ∃ q l c xs, v = .slice q l c ∧ Sl (.int k) (hp W) q l c xs ∧ c ≤ maxLen ∧ ∀ x ∈ xs, (Lit.int k x).wf = true := by
  obtain ⟨a0, len, cap, rfl⟩ := okWide_slice ht hval
  obtain ⟨fuel, hf⟩ := h
  rcases open_ints ht he hc hf with ⟨hcs, hx⟩ | ⟨a, len', cap', zs, hcs, _, hl, hm, hz, hx, hcell, hw⟩
  · simp only [Value.cells, List.cons.injEq, Value.slice.injEq, and_true] at hcs
    obtain ⟨rfl, rfl, rfl⟩ := hcs
    exact ⟨none, 0, 0, [], rfl, Sl.nil, by decide, fun x hx => by cases hx⟩
  · simp only [Value.cells, List.cons.injEq, Value.slice.injEq, and_true] at hcs
    obtain ⟨rfl, rfl, rfl⟩ := hcs
    simp only [Prod.mk.injEq] at hx
    refine ⟨_, _, _, zs.take len, rfl, ⟨?_, hl, ?_⟩, hm, fun x hx => hw x (List.mem_of_mem_take hx)⟩
    · simp only [if_true] at hz
      rw [List.length_take]; omega
    · by_cases hn : zs.length = 0
      · left
        rw [List.length_eq_zero_iff.1 hn]; simp
      · right
        have h0 := hcell 0 (by omega)
        rw [add_zero'] at h0
        have ha := spot_none h0
        refine ⟨a.block, a.off, by rw [← ha], fun i hi => ?_⟩
        have hi' : i < zs.length := by rw [List.length_take] at hi; omega
        have h1 := hcell i hi'
        rw [ha, add_off] at h1
        have h2 : zs.getD i 0 = (zs.take len)[i] := by rw [List.getElem_take]; simp [List.getD, hi']
        rw [h2] at h1
        exact rd_of_cell h1 (hno _ _ (hsub _ (by rw [hx.2]; exact row_mem hi'))) rfl

/-- A slice of pairs of numbers that came in. -/
theorem open_snP [Sp] {t e u : TypeId} {f0 f1 : Field} {W : World} {base : Nat} {v : Value} {d : DataW H} {p before : List MemPlace} (ht : P.underlying t = some (.slice e)) (he : P.underlying e = some (.struct #[f0, f1]))
    (ce : P.cellsOf e = 2) (o0 : f0.offset = 0) (o1 : f1.offset = 1) (u0 : f0.type = u) (u1 : f1.type = u) (hu : P.underlying u = some (.int .i64)) (hc : P.cellsOf u = 1)
    (hval : Value.okWide P W .any base t v) (h : DataW.Trod enc P W 0 (fun _ => true) true t v d p) (hsub : ∀ x ∈ p, x ∈ before) (hno : W.noneFrozen before) :
    ∃ q l c xs, v = .slice q l c ∧ Sn 2 pairC (hp W) q l c xs ∧ c ≤ maxLen ∧ ∀ x ∈ xs, (Lit.int .i64 x.1).wf = true ∧ (Lit.int .i64 x.2).wf = true := by
  obtain ⟨a0, len, cap, rfl⟩ := okWide_slice ht hval
  obtain ⟨fuel, hf⟩ := h
  rcases Deep.open_slice_pairs ht he ce o0 o1 (by rw [u0]; exact hc) (by rw [u1]; exact hc) hf with ⟨hcs, hx⟩ | ⟨a, len', cap', m, n, V0, V1, D0, D1, P0, P1, hcs, _, hl, hm, hmm, hx, hcell⟩
  · simp only [Value.cells, List.cons.injEq, Value.slice.injEq, and_true] at hcs
    obtain ⟨rfl, rfl, rfl⟩ := hcs
    exact ⟨none, 0, 0, [], rfl, Sn.nil, by decide, fun x hx => by cases hx⟩
  · simp only [Value.cells, List.cons.injEq, Value.slice.injEq, and_true] at hcs
    obtain ⟨rfl, rfl, rfl⟩ := hcs
    simp only [Prod.mk.injEq] at hx
    simp only [if_true] at hmm
    subst hmm
    have each : ∀ i, i < m → ∃ x : Int × Int, V0 i = .int .i64 x.1 ∧ V1 i = .int .i64 x.2 ∧ (Lit.int .i64 x.1).wf = true ∧ (Lit.int .i64 x.2).wf = true := fun i hi => by
      obtain ⟨_, _, h3, h4⟩ := hcell i hi
      rw [u0] at h3; rw [u1] at h4
      obtain ⟨x, e0, _, wx⟩ := DataW.trod_int hu h3
      obtain ⟨y, e1, _, wy⟩ := DataW.trod_int hu h4
      exact ⟨(x, y), by simpa using e0, by simpa using e1, wx, wy⟩
    have pick : ∃ g : Nat → Int × Int, ∀ i, i < m → V0 i = .int .i64 (g i).1 ∧ V1 i = .int .i64 (g i).2 ∧ (Lit.int .i64 (g i).1).wf = true ∧ (Lit.int .i64 (g i).2).wf = true :=
      ⟨fun i => if h : i < m then Classical.choose (each i h) else (0, 0), fun i hi => by simp only [hi, dif_pos]; exact Classical.choose_spec (each i hi)⟩
    obtain ⟨g, hg⟩ := pick
    refine ⟨_, _, _, (List.range len).map g, rfl, ⟨by simp, hl, ?_⟩, hm, fun x hx => ?_⟩
    · by_cases hn : m = 0
      · left
        have : len = 0 := by omega
        rw [this]; rfl
      · right
        have h0 := (hcell 0 (by omega)).1
        rw [Nat.zero_mul, add_zero'] at h0
        have ha := spot_none h0
        refine ⟨a.block, a.off, by rw [← ha], fun i hi j v e => ?_⟩
        have hi' : i < m := by simp at hi; omega
        obtain ⟨c1, c2, _, _⟩ := hcell i hi'
        obtain ⟨e1, e2, _, _⟩ := hg i hi'
        rw [ha, add_off] at c1 c2
        simp only [List.getElem_map, List.getElem_range] at e
        match j, e with
        | 0, e =>
          simp only [pairC, List.getElem?_cons_zero, Option.some.injEq] at e
          subst e
          rw [e1] at c1
          exact rd_of_cell c1 (hno _ _ (hsub _ (by rw [hx.2]; exact List.mem_append_left _ (row_mem (by omega))))) rfl
        | 1, e =>
          simp only [pairC, List.getElem?_cons_succ, List.getElem?_cons_zero, Option.some.injEq] at e
          subst e
          rw [e2] at c2
          exact rd_of_cell c2 (hno _ _ (hsub _ (by rw [hx.2]; exact List.mem_append_left _ (row_mem (i := i * 2 + 1) (by omega))))) rfl
        | j + 2, e => simp [pairC] at e
    · obtain ⟨i, hi, rfl⟩ := List.mem_map.1 hx
      have hi := List.mem_range.1 hi
      exact (hg i (by omega)).2.2
end
end Go.V
