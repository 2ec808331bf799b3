/- Rows of bytes that strings.Builder keeps, what of them is frozen; what the model has in the place of some functions. No program in sight. -/
import Derived.Test.YteijgmmjgbgffaaDoorVcMem
import Derived.Lib.UnsafeStr
import Derived.Lib.MakeNoZero
import Derived.Lib.Bytealg
import Derived.Lib.Builder
import Derived.Laws.Externs
namespace Go.V
set_option linter.unusedSectionVars false

def b8 (b : UInt8) : Value := .int .u8 (b.toNat : Nat)
def f8 (b : UInt8) : Value := .tuple ⟨[b8 b]⟩

/-- A row of bytes in memory of its own (none of it in A), k of its bytes frozen. -/
def BB (e : TypeId) (A H : Hp) (p : Option Addr) (c k : Nat) (l : List UInt8) : Prop :=
  l.length ≤ c ∧ k ≤ l.length ∧ ((p = none ∧ c = 0) ∨
    ∃ q rest, p = some ⟨q, 0, none⟩ ∧ A q = none ∧ 0 < c ∧ c = l.length + rest.length ∧ rest.all isCell = true ∧ H q = some (((l.take k).map f8 ++ ((l.drop k).map b8 ++ rest)) ++ [tyM e 0 k]))

section
variable {e : TypeId} {A A' H H' : Hp} {p : Option Addr} {c k : Nat} {l : List UInt8} {O : List Nat}
theorem BB.none : BB e A H none 0 0 [] := ⟨Nat.le_refl _, Nat.le_refl _, .inl ⟨rfl, rfl⟩⟩
theorem BB.mod (h : BB e A H p c k l) (hm : Mod O H H') (hp : ∀ b ∈ blkL p, b ∉ O) : BB e A H' p c k l :=
  ⟨h.1, h.2.1, h.2.2.imp id fun ⟨q, r, h1, h2, h3, h4, h5, h6⟩ => ⟨q, r, h1, h2, h3, h4, h5, hm q (hp q (by rw [h1]; simp [blkL])) _ h6⟩⟩
theorem BB.base (h : BB e A H p c k l) (hA : ∀ b ∈ blkL p, A' b = Option.none) : BB e A' H p c k l :=
  ⟨h.1, h.2.1, h.2.2.imp id fun ⟨q, r, h1, h2, h3, h4, h5, h6⟩ => ⟨q, r, h1, hA q (by rw [h1]; simp [blkL]), h3, h4, h5, h6⟩⟩
theorem BB.fr (h : BB e A H p c k l) : ∀ b ∈ blkL p, A b = Option.none := by
  rcases h.2.2 with ⟨rfl, _⟩ | ⟨q, r, rfl, h2, _⟩
  · simp [blkL]
  · simpa [blkL] using h2
theorem BB.there (h : BB e A H p c k l) : ∀ b ∈ blkL p, H b ≠ Option.none := by
  rcases h.2.2 with ⟨rfl, _⟩ | ⟨q, r, rfl, h2, h3, h4, h5, h6⟩
  · simp [blkL]
  · simp only [blkL, List.mem_singleton, forall_eq]; rw [h6]; intro e; cases e
theorem b8_cell (b : UInt8) : isCell (b8 b) = true := rfl
theorem BB.rd (h : BB e A H p c k l) {q : Nat} (hp : p = some ⟨q, 0, Option.none⟩) {i : Nat} (hk : k ≤ i) (hi : i < l.length) : rd H q i = some (b8 (l[i])) := by
  rcases h.2.2 with ⟨h0, _⟩ | ⟨q', r, h1, h2, h3, h4, h5, h6⟩
  · rw [h0] at hp; cases hp
  · rw [h1] at hp
    simp only [Option.some.injEq, Addr.mk.injEq, and_true] at hp
    subst hp
    unfold Go.V.rd
    rw [h6]
    simp only [Option.bind_some]
    rw [List.getElem?_append_left (by simp; omega), List.getElem?_append_right (by simp; omega), List.getElem?_append_left (by simp; omega)]
    simp only [List.length_map, List.length_take, List.getElem?_map, List.getElem?_drop, show min k l.length = k by omega]
    rw [show k + (i - k) = i by omega, List.getElem?_eq_getElem hi]
    rfl
end

theorem mkl_app (l m : List Value) : mkl l m = l ++ m := by cases m <;> simp [mkl]
/-- append(buf, ..): n bytes. -/
theorem BB.app {e : TypeId} {A H : Hp} {p : Option Addr} {c k : Nat} {l : List UInt8} {te : TE} (hB : BB e A H p c k l) (hA : Le A H) (hs : te.size = 1) (hb : te.bytes = 1) (hz : te.zc = [.int .u8 0]) (ht : te.tl = [tyM e 0 0]) {x : Value} {new : List UInt8}
    (hsrc : ∀ G : Nat → List Value → Prop, G new.length (new.map b8) → srcCells H 1 x G) (hk : k = 0 ∨ l.length + new.length ≤ c) (hfit : l.length + new.length ≤ 140737488355328) {F : Option Addr → Nat → Nat → Hp → Prop}
    (hF : ∀ p' c' k' H', BB e A H' p' c' k' (l ++ new) → Le A H' → Mod (blkL p) H H' → (p' = p ∨ New H p') → (k' = k ∧ p' = p ∧ c' = c ∨ k' = 0 ∧ c < l.length + new.length) → F p' (l.length + new.length) c' H') :
    APP H te p l.length c x F := by
  have hall : (new.map b8).all isCell = true := List.all_eq_true.2 fun v hv => by obtain ⟨_, _, rfl⟩ := List.mem_map.1 hv; rfl
  have fresh : ∀ b, H b = Option.none → A b = Option.none := fun b e => none_of_le hA e
  unfold APP
  rw [hs]
  apply hsrc
  obtain ⟨h1, h2, hp⟩ := hB
  refine ⟨fun hle => ?_, fun hgt => ⟨?_, by rw [hb]; decide, ?_⟩⟩
  · rcases hp with ⟨rfl, rfl⟩ | ⟨q, rest, rfl, h3, h4, h5, h6, h7⟩
    · have e1 : new = [] := List.length_eq_zero_iff.1 (by omega)
      have e2 : l = [] := List.length_eq_zero_iff.1 (by omega)
      subst e1 e2
      exact hF Option.none 0 k H ⟨h1, h2, .inl ⟨rfl, rfl⟩⟩ hA Mod.refl (.inl rfl) (.inl ⟨rfl, rfl, rfl⟩)
    · have hpre : ((l.take k).map f8 ++ (l.drop k).map b8).length = l.length := by simp; omega
      have hH : H q = some (((l.take k).map f8 ++ (l.drop k).map b8) ++ (rest.take new.length ++ (rest.drop new.length ++ [tyM e 0 k]))) := by
        rw [h7]; simp only [List.append_assoc]
        rw [← List.append_assoc (rest.take _), List.take_append_drop]
      refine ⟨fun i hi => ?_, fun v hv => List.all_eq_true.1 hall v hv, ?_⟩
      · simp only [List.length_map] at hi
        unfold Go.V.rd
        rw [hH]
        simp only [Option.bind_some]
        rw [List.getElem?_append_right (by rw [hpre]; omega), hpre, List.getElem?_append_left (by simp; omega), show 0 + l.length * 1 + i - l.length = i by omega, List.getElem?_take_of_lt hi, List.getElem?_eq_getElem (by omega)]
        have hc : isCell rest[i] = true := List.all_eq_true.1 h6 _ (List.getElem_mem _)
        simp only [Option.bind_some]
        rw [nm_cell hc]; rfl
      · have hw := wrN_at q (new.map b8) ((l.take k).map f8 ++ (l.drop k).map b8) (rest.take new.length) (rest.drop new.length ++ [tyM e 0 k]) H (by simp; omega) hH
        rw [hpre] at hw
        rw [show 0 + l.length * 1 = l.length by omega]
        refine hF _ c k _ ⟨by simp; omega, by simp; omega, .inr ⟨q, rest.drop new.length, rfl, h3, h4, by simp; omega, ?_, ?_⟩⟩ (Le.wrN h3 _ _ _ hA) (fun b hb' d hd => ?_) (.inl rfl) (.inl ⟨rfl, rfl, rfl⟩)
        · exact List.all_eq_true.2 fun v hv => List.all_eq_true.1 h6 v (List.mem_of_mem_drop hv)
        · rw [hw, List.take_append_of_le_length h2, List.drop_append_of_le_length h2]
          simp
        · rw [rd_wrN_ne q _ _ _ b (fun e => hb' (by rw [e]; simp [blkL]))]; exact hd
  · rw [hb]
    exact growslice_fits hgt (by omega)
  · have hk0 : k = 0 := by rcases hk with h | h; exact h; omega
    subst hk0
    rcases hp with ⟨rfl, rfl⟩ | ⟨q, rest, rfl, h3, h4, h5, h6, h7⟩
    · have e2 : l = [] := List.length_eq_zero_iff.1 (by omega)
      subst e2
      intro c' b' hb' hc'
      refine hF _ c' 0 _ ⟨by simpa using hc', Nat.zero_le _, .inr ⟨b', rep (c' - (0 + new.length)) te.zc, rfl, fresh b' hb', by simp at hgt; omega, ?_, ?_, ?_⟩⟩ (hA.trans (.upd hb')) (fun b hb'' d hd => ?_) (.inr (New.some hb')) (.inr ⟨rfl, hgt⟩)
      · rw [rep_len, hz]; simp at hc' ⊢; omega
      · rw [hz]; exact rep_all rfl
      · simp [upd, mkl_app, ht]
      · unfold upd; rw [if_neg]; exact hd
        intro e; subst e; rw [hb'] at hd; cases hd
    · refine ⟨l.map b8, ⟨by simp, fun i v hv => ?_⟩, fun c' b' hb' hc' => ?_⟩
      · have hi : i < l.length := by
          rcases Nat.lt_or_ge i l.length with h | h
          · exact h
          · rw [List.getElem?_eq_none (by simpa using h)] at hv; cases hv
        have := BB.rd (e := e) (A := A) (H := H) (c := c) (k := 0) (l := l) ⟨h1, h2, .inr ⟨q, rest, rfl, h3, h4, h5, h6, h7⟩⟩ rfl (Nat.zero_le i) hi
        rw [Nat.zero_add, this]
        simpa [List.getElem?_eq_getElem hi] using hv
      · refine hF _ c' 0 _ ⟨by simp; omega, Nat.zero_le _, .inr ⟨b', rep (c' - (l.length + new.length)) te.zc, rfl, fresh b' hb', by omega, ?_, ?_, ?_⟩⟩ (hA.trans (.upd hb')) (fun b hb'' d hd => ?_) (.inr (New.some hb')) (.inr ⟨rfl, hgt⟩)
        · rw [rep_len, hz]; simp; omega
        · rw [hz]; exact rep_all rfl
        · simp [upd, mkl_app, ht]
        · unfold upd; rw [if_neg]; exact hd
          intro e; subst e; rw [hb'] at hd; cases hd
theorem src_str {H : Hp} (s : ByteArray) (G : Nat → List Value → Prop) (hG : G s.data.toList.length (s.data.toList.map b8)) : srcCells H 1 (.string s) G := hG
theorem src_one {H : Hp} {b : Nat} {x : UInt8} {tl : List Value} (G : Nat → List Value → Prop) (hG : G 1 ([x].map b8)) : srcCells (upd H b ([.int .u8 (x.toNat : Nat)] ++ tl)) 1 (.slice (some ⟨b, 0, none⟩) 1 1) G :=
  ⟨[b8 x], ⟨rfl, fun i v hv => by
    match i, hv with
    | 0, hv => simp at hv; subst hv; rw [rd_upd_self]; rfl
    | i + 1, hv => simp at hv⟩, hG⟩

/-! ### Pieces -/
theorem bnd11 {lo hi : Int} {len cap : Nat} {F : Nat → Nat → Prop} (j k : Nat) (hl : lo = (j : Int)) (hh : hi = (k : Int)) (hk : k ≤ cap) (hjk : j ≤ k) (hF : F j k) : BND (some lo) (some hi) len cap F := ⟨j, k, hl, hh, hk, hjk, hF⟩
theorem bnd01 {hi : Int} {len cap : Nat} {F : Nat → Nat → Prop} (k : Nat) (hh : hi = (k : Int)) (hk : k ≤ cap) (hF : F 0 k) : BND none (some hi) len cap F := ⟨k, hh, hk, hF⟩
theorem bnd10 {lo : Int} {len cap : Nat} {F : Nat → Nat → Prop} (j : Nat) (hl : lo = (j : Int)) (hj : j ≤ len) (hF : F j len) : BND (some lo) none len cap F := ⟨j, hl, hj, hF⟩

/-! ### Conversions of pointers -/
section
variable [Sp] {P : Program} {H : Hp} {A : Hp}
theorem mask_noTy {lo hi : Nat} {l : List Value} {t a b : Nat} : tyM t a b ∉ maskL lo hi l := by
  intro h
  obtain ⟨i, hi'⟩ := List.mem_iff_getElem?.1 h
  rw [maskL_get] at hi'
  cases hl : l[i]? with
  | none => rw [hl] at hi'; cases hi'
  | some v =>
    rw [hl] at hi'
    simp only [Option.map_some, Option.some.injEq] at hi'
    split at hi'
    · simp [tyM] at hi'
    · cases v <;> simp [emb, tyM] at hi'
/-- What is seen behind the cells tells the row's type, and what of it is frozen. -/
theorem row_of {w : World} {b : Nat} {X : List Value} {e lo hi : Nat} (h : hp w b = some (X ++ [tyM e lo hi])) : ∃ c, w.heap[b]? = some (.cells c e (lo, hi)) ∧ maskL lo hi c.toList = X := by
  unfold hp at h
  cases ho : w.heap[b]? with
  | none => rw [ho] at h; cases h
  | some o =>
    rw [ho] at h
    simp only [Option.bind_some] at h
    cases o with
    | cells c t fz =>
      simp only [objB, Option.some.injEq] at h
      rw [mkl_eq] at h
      unfold mkT at h
      cases hs : Sp.sp t with
      | false =>
        rw [hs] at h
        simp only [cond_false, List.append_nil] at h
        exact absurd (show tyM e lo hi ∈ maskL fz.1 fz.2 c.toList by rw [h]; simp) mask_noTy
      | true =>
        rw [hs] at h
        simp only [cond_true] at h
        have h1 := List.append_inj' h rfl
        simp only [List.cons.injEq, and_true, tyM, Value.tuple.injEq, Array.mk.injEq, Value.int.injEq, true_and] at h1
        obtain ⟨h1, h2, h3, h4⟩ := h1
        have e1 : t = e := Int.ofNat.inj h2
        have e2 : fz.1 = lo := Int.ofNat.inj h3
        have e3 : fz.2 = hi := Int.ofNat.inj h4
        obtain ⟨f1, f2⟩ := fz
        simp only at e2 e3 h1
        subst e1 e2 e3
        exact ⟨c, rfl, h1⟩
    | map es k =>
      simp only [objB, mapV, Option.some.injEq] at h
      exfalso
      have h1 : tyM e lo hi ∈ X ++ [tyM e lo hi] := by simp
      rw [← h] at h1
      simp only [List.mem_cons, List.mem_map] at h1
      rcases h1 with h1 | ⟨_, _, h1⟩ <;> simp [tyM] at h1
    | mapIter m a s k =>
      simp only [objB, iterV, Option.some.injEq] at h
      exfalso
      have h1 : tyM e lo hi ∈ X ++ [tyM e lo hi] := by simp
      rw [← h] at h1
      simp only [List.mem_cons, List.mem_map] at h1
      rcases h1 with h1 | ⟨_, _, h1⟩ <;> simp [tyM] at h1
    | _ => simp [objB] at h
theorem shape_of {w : World} {b : Nat} {c : Array Value} {t : TypeId} {fz : Nat × Nat} (h : w.heap[b]? = some (.cells c t fz)) : w.shape? b = some (t, c.size) := by simp [World.shape?, h]
theorem info_of {t : TypeId} {s : Nat} (h : (P.info? t).map (fun i => i.size) = some s) : ∃ j, P.info? t = some j ∧ j.size = s := by
  cases hi : P.info? t with
  | none => rw [hi] at h; cases h
  | some j => rw [hi] at h; exact ⟨j, rfl, by simpa using h⟩
theorem cnv_to {src dst t : TypeId} {s b o : Nat} {v : Value} {F : Option Addr → Prop} (hs : P.underlying src = some (.pointer t)) (hd : P.underlying dst = some .unsafePointer) (ht : (P.info? t).map (fun i => i.size) = some (s + 1))
    (hr : rd H b o = some v) (hF : F (some ⟨b, o, none⟩)) : CNV P src dst (some ⟨b, o, none⟩) H F := by
  refine ⟨_, fun w hw => ?_, hF⟩
  subst hw
  obtain ⟨j, hj, hjs⟩ := info_of ht
  obtain ⟨c, t', fz, h1, h2, _⟩ := rd_world hr
  exact Lib.run_to_unsafe w ⟨b, o, none⟩ hs hd hj (by omega) (shape_of h1) (by have := (Array.getElem?_eq_some_iff.1 h2).1; exact this)
theorem cnv_from {src dst u : TypeId} {s b lo hi : Nat} {X : List Value} {F : Option Addr → Prop} (hs : P.underlying src = some .unsafePointer) (hd : P.underlying dst = some (.pointer u)) (hu : (P.info? u).map (fun i => i.size) = some s)
    (hb : H b = some (X ++ [tyM u lo hi])) (hl : liesAt P P.depth u (X.length / P.cellsOf u) 0 u 1 = true) (hF : F (some ⟨b, 0, none⟩)) : CNV P src dst (some ⟨b, 0, none⟩) H F := by
  refine ⟨_, fun w hw => ?_, hF⟩
  subst hw
  obtain ⟨j, hu, _⟩ := info_of hu
  obtain ⟨c, h1, h2⟩ := row_of hb
  have : c.size = X.length := by rw [← h2, maskL_len]; simp
  exact Lib.run_from_unsafe w ⟨b, 0, none⟩ hs hd hu (shape_of h1) (by rw [this]; exact hl)
theorem peq_ne {t te : TypeId} {s : Nat} {a : Addr} {F : Bool → Prop} (hp : P.underlying t = some (.pointer te)) (ht : (P.info? te).map (fun i => i.size) = some s) (hF : F false) : PEQ P t .neq (some a) a F := by
  obtain ⟨j, hj, _⟩ := info_of ht
  exact ⟨false, fun w => Lib.run_neq_ptr_same w a hp hj, hF⟩

/-! ### Functions without a body -/
theorem callX {k : FuncId} {args : List Value} {K : Value → Hp → Prop} {fn : Func} {e : Array Value → Sem Value} (hf : P.funcs[k]? = some fn) (hname : (fn.name == "runtime.NumGoroutine") = false) (hb : fn.body = none) (hn : Extern.findNext fn = none) (he : Extern.find fn = some e)
    (h : ∀ w, hp w = H → ∃ v w', (e ⟨args⟩).run P w = .ok v w' ∧ K v (hp w') ∧ Ge 0 w w') : CallH P k args H K := fun w hw => by
  obtain ⟨v, w', h1, h2⟩ := h w hw
  refine .inr ⟨⟨fn, hf, hb⟩, v, w', ?_, h2⟩
  rw [run_callFunc_extern hf hname (by rw [hb]; rfl) hn he, h1]
  rfl

theorem digits_cell : ∀ (n t : Nat) (acc : Array Value), acc.toList.all isCell = true → (Extern.BytealgMakeNoZero.digits n t acc).toList.all isCell = true
  | 0, _, _, h => h
  | n + 1, t, acc, h => by
    rw [Extern.BytealgMakeNoZero.digits]
    refine digits_cell n _ _ ?_
    rw [Array.toList_push, List.all_append, h]
    rfl
/-- n bytes, whatever they are. -/
theorem makeNoZero_run {t e : TypeId} {ps : Array TypeId} {n : Nat} {K : Value → Hp → Prop} (ht : P.underlying t = some (.slice e)) (hn : n ≤ 281474976710656) (hs : Sp.sp e = true)
    (hK : ∀ b (cs : List Value), H b = none → n ≤ cs.length → cs.all isCell = true → K (.slice (some ⟨b, 0, none⟩) n cs.length) (upd H b (cs ++ [tyM e 0 0]))) (w : World) (hw : hp w = H) :
    ∃ v w', (Extern.BytealgMakeNoZero.makeNoZero ps #[t] #[.int .i64 n]).run P w = .ok v w' ∧ K v (hp w') ∧ Ge 0 w w' := by
  subst hw
  let cs := Extern.BytealgMakeNoZero.digits (grownCap w n 0 e) ((Question.extern "internal/bytealg.MakeNoZero.bytes" 0).cut (w.tape (w.drawn + 1) (.extern "internal/bytealg.MakeNoZero.bytes" 0))) #[]
  have hall : cs.toList.all isCell = true := digits_cell _ _ _ rfl
  have hnt : cs.toList.all notT = true := List.all_eq_true.2 fun v hv => isCell_notT (List.all_eq_true.1 hall v hv)
  have hsz : n ≤ cs.size := by
    show n ≤ (Extern.BytealgMakeNoZero.digits _ _ _).size
    rw [Lib.size_digits]
    simpa using grownCap_ge w n 0 e
  refine ⟨.slice (some ⟨w.heap.size, 0, none⟩) n cs.size, w.drew.drew.alloc (.cells cs e), ?_, ?_, ((Ge.drew w).trans (Ge.drew _)).trans (Ge.alloc _ _)⟩
  · obtain ⟨cs', h1, _⟩ := Lib.run_makeNoZero (P := P) w ps t e ht n hn
    have hdef : Extern.BytealgMakeNoZero.makeNoZero ps #[t] #[.int .i64 n] =
        (do
          let .slice elem ← underlying t | stuck "bytealg.MakeNoZero: slice type expected"
          if (n : Int) < 0 || (n : Int) > 2 ^ 48 then runtimePanic (.error "makeslice: len out of range")
          let cap ← choose (.appendCap (n : Int).toNat 0 elem)
          askRoom cap
          let bytes ← choose (.extern "internal/bytealg.MakeNoZero.bytes" 0)
          let a ← newRow elem (Extern.BytealgMakeNoZero.digits cap bytes #[])
          pure (.slice (some a) (n : Int).toNat cap)) := rfl
    rw [hdef]
    have h1 : ¬ (n : Int) < 0 := by omega
    have h2 : ¬ (281474976710656 : Int) < (n : Int) := by omega
    have h3 : cs.size = grownCap w n 0 e := by
      show (Extern.BytealgMakeNoZero.digits _ _ _).size = _
      rw [Lib.size_digits]; simp
    rw [h3]
    simp [run_underlying ht, h1, h2, Question.forced, newRow, grownCap, cs]
  · rw [hp_alloc _ _ hnt]
    have := hK w.heap.size cs.toList hp_fresh (by simpa using hsz) hall
    simp only [Array.length_toList] at this
    simp only [hp_drew]
    have e1 : mkl cs.toList (mkT e) = cs.toList ++ [tyM e 0 0] := by rw [mkl_eq]; unfold mkT; rw [hs]; rfl
    show K _ (upd (hp w) w.heap.size (mkl cs.toList (mkT e)))
    rw [e1]
    exact this

/-! ### Builtins -/
omit [Sp] in
theorem liftI_i {k : IntKind} {n : Int} {F : Int → Prop} (h : F n) : liftI k (.int k n) F := by
  simp only [liftI]
  split
  · exact h
  · rename_i hne _; exact hne rfl
theorem blt_data {ts : List TypeId} {ty : TypeId} {p : Option Addr} {n c : Nat} {F : Value → Hp → Prop} (hc : ∀ a, p = some a → c ≠ 0) (hF : F (.pointer p) H) : BLT P .unsafeSliceData ts ty [.slice p n c] H F := fun w hw => by
  subst hw
  refine ⟨_, w, fun cs => ?_, Ge.refl _ _, hF⟩
  cases p with
  | none => rfl
  | some a =>
    have := Lib.run_unsafeSliceData_row (P := P) w ⟨ts⟩ ty a n c (hc a rfl)
    simp only [builtin, Sem.run_bind]
    erw [this]
    rfl
theorem take_self (l : List UInt8) : l.take l.length = l := List.take_length
/-- The string of a builder's bytes; they are frozen then. -/
theorem blt_str {pt it ty e : TypeId} {p : Option Addr} {c k : Nat} {l : List UInt8} {F : Value → Hp → Prop} (hpt : P.underlying pt = some (.pointer e)) (hc : P.cellsOf e = 1) (hs : Sp.sp e = true) (hB : BB e A H p c k l) (hlen : l.length ≤ 9223372036854775807)
    (hF : ∀ H', BB e A H' p c l.length l → Mod (blkL p) H H' → F (.string ⟨⟨l⟩⟩) H') : BLT P .unsafeString [pt, it] ty [.pointer p, .int .i64 ((l.length : Nat) : Int)] H F := fun w hw => by
  subst hw
  by_cases h0 : l = []
  · subst h0
    refine ⟨_, w, fun cs => ?_, Ge.refl _ _, hF _ ?_ Mod.refl⟩
    · have := Lib.run_unsafeString_none (P := P) w pt it ty p
      simp only [builtin, Sem.run_bind, List.length_nil]
      erw [this]
      rfl
    · have := hB.2.1
      simp at this
      subst this
      exact hB
  · rcases hB.2.2 with ⟨_, h1⟩ | ⟨q, rest, h1, h2, h3, h4, h5, h6⟩
    · have h7 := hB.1
      rw [h1] at h7
      exact absurd (List.length_eq_zero_iff.1 (by omega)) h0
    · subst h1
      obtain ⟨cs, g1, g2⟩ := row_of h6
      have hkl := hB.2.1
      have hcs : cs.toList.length = l.length + rest.length := by
        have := congrArg List.length g2
        rw [maskL_len] at this
        rw [this]
        simp; omega
      have cell : ∀ (j : Nat) (x : UInt8), l[j]? = some x → cs[j]? = some (Value.int .u8 (x.toNat : Nat)) := fun j x hj => by
        have hjl : j < l.length := by
          rcases Nat.lt_or_ge j l.length with h | h
          · exact h
          · rw [List.getElem?_eq_none h] at hj; cases hj
        have e1 : (maskL 0 k cs.toList)[j]? = ((l.take k).map f8 ++ ((l.drop k).map b8 ++ rest))[j]? := by rw [g2]
        rw [maskL_get, List.getElem?_eq_getElem (by omega)] at e1
        have ex : l[j] = x := by rw [List.getElem?_eq_getElem hjl] at hj; exact Option.some.inj hj
        by_cases hjk : j < k
        · rw [List.getElem?_append_left (by simp; omega)] at e1
          simp only [Option.map_some, Nat.zero_le, hjk, and_self, if_true, List.getElem?_map, List.getElem?_take, hj] at e1
          simp only [Option.some.injEq, f8, Value.tuple.injEq, Array.mk.injEq, List.cons.injEq, and_true] at e1
          rw [← Array.getElem?_toList, List.getElem?_eq_getElem (by omega), e1]
          rfl
        · rw [List.getElem?_append_right (by simp; omega), List.getElem?_append_left (by simp; omega)] at e1
          simp only [Option.map_some, Nat.zero_le, hjk, and_false, if_false, List.length_map, List.length_take, show min k l.length = k by omega, List.getElem?_map, List.getElem?_drop] at e1
          rw [show k + (j - k) = j by omega, hj] at e1
          simp only [Option.map_some, Option.some.injEq] at e1
          rw [← Array.getElem?_toList, List.getElem?_eq_getElem (by omega)]
          generalize cs.toList[j] = u at e1 ⊢
          cases u <;> simp [emb, b8] at e1 ⊢ <;> exact e1
      have hne : ¬ l.length = 0 := fun e => h0 (List.length_eq_zero_iff.1 e)
      have hfz : (w.freeze ⟨q, 0, none⟩ l.length).heap[q]? = some (.cells cs e (0, l.length)) := by
        unfold World.freeze
        rw [if_neg hne]
        simp only [Array.getElem?_modify, if_true, g1, Option.map_some]
        by_cases hk : k = 0
        · subst hk; simp
        · have : (0 == k) = false := by simp; omega
          simp only [this]
          simp; omega
      have hother : ∀ x, x ≠ q → (w.freeze ⟨q, 0, none⟩ l.length).heap[x]? = w.heap[x]? := fun x hx => by
        unfold World.freeze
        rw [if_neg hne]
        simp only [Array.getElem?_modify]
        rw [if_neg (Ne.symm hx)]
      have hrest : ∀ i, i < rest.length → cs.toList[l.length + i]? = rest[i]? ∧ ∀ v, rest[i]? = some v → notT v = true := fun i hi => by
        have e1 : (maskL 0 k cs.toList)[l.length + i]? = ((l.take k).map f8 ++ ((l.drop k).map b8 ++ rest))[l.length + i]? := by rw [g2]
        rw [maskL_get, List.getElem?_eq_getElem (by omega), List.getElem?_append_right (by simp; omega), List.getElem?_append_right (by simp; omega)] at e1
        simp only [Option.map_some, Nat.zero_le, show ¬ l.length + i < k by omega, and_false, if_false, List.length_map, List.length_take, List.length_drop, show min k l.length = k by omega, show l.length + i - k - (l.length - k) = i by omega] at e1
        have hv : isCell rest[i] = true := List.all_eq_true.1 h5 _ (List.getElem_mem hi)
        rw [List.getElem?_eq_getElem hi] at e1 ⊢
        simp only [Option.some.injEq] at e1
        refine ⟨?_, fun v hv' => by rw [← Option.some.inj hv']; exact isCell_notT hv⟩
        rw [List.getElem?_eq_getElem (by omega)]
        generalize cs.toList[l.length + i] = u at e1 ⊢
        rw [← e1] at hv
        rw [← e1]
        cases u <;> first | rfl | (simp [emb, isCell] at hv)
      have hmask : maskL 0 l.length cs.toList = (l.take l.length).map f8 ++ ((l.drop l.length).map b8 ++ rest) := by
        apply List.ext_getElem?
        intro i
        rw [maskL_get]
        by_cases hi : i < l.length
        · have := cell i l[i] (List.getElem?_eq_getElem hi)
          rw [Array.getElem?_toList, this, List.getElem?_append_left (by simpa using hi)]
          simp only [Option.map_some, Nat.zero_le, hi, and_self, if_true, List.getElem?_map, List.take_length, List.getElem?_eq_getElem hi]
          rfl
        · by_cases hi2 : i < l.length + rest.length
          · obtain ⟨r1, r2⟩ := hrest (i - l.length) (by omega)
            rw [show l.length + (i - l.length) = i by omega] at r1
            rw [r1, List.getElem?_append_right (by simp; omega)]
            simp only [List.take_length, List.length_map, List.drop_length, List.map_nil, List.nil_append]
            rw [List.getElem?_eq_getElem (by omega)]
            simp only [Option.map_some, hi, and_false, if_false]
            rw [emb_notT (r2 _ (List.getElem?_eq_getElem (by omega)))]
          · rw [List.getElem?_eq_none (by omega), List.getElem?_eq_none (by simp; omega)]
            rfl
      have hhp : ∀ x, hp (w.freeze ⟨q, 0, none⟩ l.length) x = if x = q then some (((l.take l.length).map f8 ++ ((l.drop l.length).map b8 ++ rest)) ++ [tyM e 0 l.length]) else hp w x := fun x => by
        split
        · rename_i hx
          subst hx
          unfold hp
          rw [hfz]
          simp only [Option.bind_some, objB]
          rw [mkl_eq, hmask]
          unfold mkT; rw [hs]; rfl
        · rename_i hx
          unfold hp
          rw [hother x hx]
      refine ⟨_, w.freeze ⟨q, 0, none⟩ l.length, fun cs' => ?_, ?_, hF _ ⟨hB.1, Nat.le_refl _, .inr ⟨q, rest, rfl, h2, h3, h4, h5, ?_⟩⟩ ?_⟩
      · have := Lib.run_unsafeString_row (P := P) w pt it ty e hpt hc q cs.size (shape_of g1) l h0 (by simp at hcs; omega) hlen (fun j x hj => by
          rw [add_off]
          simp [World.cell?, g1, cell j x hj])
        simp only [builtin, Sem.run_bind]
        erw [this]
        rfl
      · refine ⟨by unfold World.freeze; split <;> simp, fun b _ hb hn => hother b (fun e => by rw [e, h6] at hn; cases hn), ?_, ?_, ?_, fun b _ hb => ?_⟩
        · unfold World.freeze; split <;> rfl
        · unfold World.freeze; split <;> rfl
        · unfold World.freeze; split <;> rfl
        · by_cases hbq : b = q
          · subst hbq
            unfold tagAt
            rw [hfz, g1]
            simp only [Option.bind_some, tagOf]
            by_cases hk : k = l.length
            · rw [hk]; exact .refl _
            · refine .inr ⟨_, 0, k, 0, l.length, cs.size, rfl, rfl, fun i _ _ hi => ⟨Nat.zero_le _, by omega⟩, k, ?_, ⟨Nat.zero_le _, by omega⟩, fun h => by omega⟩
              simp at hcs; omega
          · exact .of (tag_of_same (hother b hbq))
      · rw [hhp, if_pos rfl]
      · intro b hb d hd
        rw [hhp, if_neg (fun e => hb (by rw [e]; simp [blkL]))]
        exact hd

/-- Nothing is copied. -/
theorem blt_copy0 {t u ty e : TypeId} {s : Nat} {p q : Option Addr} {n c c' : Nat} {F : Value → Hp → Prop} (ht : P.underlying t = some (.slice e)) (hi : (P.info? e).map (fun i => i.size) = some s) (hF : F (.int .i64 0) H) : BLT P .copy [t, u] ty [.slice p n c, .slice q 0 c'] H F := fun w hw => by
  subst hw
  obtain ⟨i, hi, _⟩ := info_of hi
  refine ⟨_, w, fun cs => ?_, Ge.refl _ _, hF⟩
  have hm : Nat.min 0 n = 0 := Nat.zero_min n
  cases p <;> cases q <;> simp [builtin, Builtin.copy_, run_underlying ht, Builtin.lenOf, hm, Builtin.firstCells, storeCells, run_sizeOf hi, loadCells, loadCellsFrom, goInt]
end
end Go.V
