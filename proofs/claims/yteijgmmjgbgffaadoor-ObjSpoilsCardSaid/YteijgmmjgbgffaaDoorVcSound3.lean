/- The reckoner is sound: the range over a function; all code. -/
import Derived.Test.YteijgmmjgbgffaaDoorVcSound2
namespace Go.V
set_option linter.unusedSectionVars false
variable [Sp]
section
variable {P : Program} {T : Tab} {A : Ann} {yl : Option YG} {y : Value} {n : Nat} {B : Nat}

/-- A change of one thing that is no row of cells. -/
theorem hp_setObj {w : World} {L : Nat} {o o' : Obj} (h : w.heap[L]? = some o) (ho : objB o = none) (ho' : objB o' = none) : hp { w with heap := w.heap.setIfInBounds L o' } = hp w := by
  funext b
  simp only [hp]
  by_cases e : L = b
  · subst e
    have hl := lt_of_heap h
    have h2 : w.heap[L] = o := by have := (Array.getElem?_eq_some_iff.1 h).2; exact this
    simp [hl, h2, ho, ho']
  · rw [Array.getElem?_setIfInBounds_ne e]

theorem Lt.setObj {w : World} {L C : Nat} (o' : Obj) (hC : C ≤ L) : Lt C w { w with heap := w.heap.setIfInBounds L o' } :=
  ⟨by simp, fun b h1 _ _ => by
    show (w.heap.setIfInBounds L o')[b]? = w.heap[b]?
    rw [Array.getElem?_setIfInBounds_ne (by omega)], rfl, rfl, rfl, fun b h1 _ => .of <| tag_of_same (by
    show (w.heap.setIfInBounds L o')[b]? = w.heap[b]?
    rw [Array.getElem?_setIfInBounds_ne (by omega)])⟩

theorem Ge.setObj {w : World} {L B : Nat} (o' : Obj) (hB : L < B) : Ge B w { w with heap := w.heap.setIfInBounds L o' } :=
  ⟨by simp, fun b h1 _ _ => by
    show (w.heap.setIfInBounds L o')[b]? = w.heap[b]?
    rw [Array.getElem?_setIfInBounds_ne (by omega)], rfl, rfl, rfl, fun b h1 _ => .of <| tag_of_same (by
    show (w.heap.setIfInBounds L o')[b]? = w.heap[b]?
    rw [Array.getElem?_setIfInBounds_ne (by omega)])⟩

theorem setObj_get {w : World} {L : Nat} {o o' : Obj} (h : w.heap[L]? = some o) : ({ w with heap := w.heap.setIfInBounds L o' } : World).heap[L]? = some o' := by
  have hl := lt_of_heap h
  simp [hl]

theorem setObj_ne {w : World} {L b : Nat} {o' : Obj} (h : b ≠ L) : ({ w with heap := w.heap.setIfInBounds L o' } : World).heap[b]? = w.heap[b]? := by
  show (w.heap.setIfInBounds L o')[b]? = w.heap[b]?
  rw [Array.getElem?_setIfInBounds_ne (Ne.symm h)]

theorem run_getLoop {w : World} {L : Nat} {r : Loop} (h : w.heap[L]? = some (.loop r)) : (Instr.getLoop L).run P w = .ok r w := by
  simp [Instr.getLoop, getObj, Sem.run, h]

theorem run_setObj' {w : World} {L : Nat} {o o' : Obj} (h : w.heap[L]? = some o) (hc : ∀ c t f, o ≠ .cells c t f) : (setObj L o').run P w = .ok () { w with heap := w.heap.setIfInBounds L o' } := by
  cases o <;> first | exact absurd rfl (hc _ _ _) | simp [setObj, Sem.run, h]

theorem run_beginRound {w : World} {L : Nat} {r : Loop} (h : w.heap[L]? = some (.loop r)) (hr : r.state = .ready) :
    (Instr.beginRound L).run P w = .ok () { w with heap := w.heap.setIfInBounds L (.loop { r with state := .busy }) } := by
  simp [Instr.beginRound, run_getLoop h, run_setObj' h, hr]

theorem run_endRound {w : World} {L : Nat} {r : Loop} (h : w.heap[L]? = some (.loop r)) (j : Option Code) :
    (Instr.endRound L j).run P w = .ok (.bool j.isNone) { w with heap := w.heap.setIfInBounds L (.loop { r with state := if j.isNone then .ready else .done, pending := j }) } := by
  simp [Instr.endRound, run_getLoop h, run_setObj' h]

theorem run_endLoop {w : World} {L : Nat} {r : Loop} (h : w.heap[L]? = some (.loop r)) (hr : ¬ r.state = .busy) :
    (Instr.endLoop L).run P w = .ok r.pending { w with heap := w.heap.setIfInBounds L (.loop { r with state := .exhausted }) } := by
  simp [Instr.endLoop, run_getLoop h, run_setObj' h, hr]

theorem YOk.and {L : Nat} {G : GT} {X : Al → World → Prop} {w0 : World} (h : YOk P L G B X) : YOk P L G B fun al w => X al w ∧ Ge B w0 w := by
  intro vals Kb w hX hG
  obtain ⟨fn, tmps, as, body, h1, h2⟩ := h vals Kb w hX.1 hG
  refine ⟨fn, tmps, as, body, h1, h2.mono ?_⟩
  rintro e w' ⟨al, rfl, hk, hx, hg⟩
  exact ⟨al, rfl, hk, ⟨hx, hX.2.trans hg⟩, hg⟩

/-- The same system, with what has been kept since w0. -/
theorem Sys.and {C : Nat} {Inv : Al → World → Prop} (S : Sys P B C Inv y yl) (w0 : World) (hC : C ≤ w0.heap.size) : Sys P B w0.heap.size (fun al w => Inv al w ∧ Ge B w0 w) y yl :=
  ⟨Nat.le_trans S.le hC, fun al w w' h hl => ⟨S.st _ _ _ h.1 (hl.mono hC), ⟨Nat.le_trans h.2.size hl.size, fun b h1 h2 h3 => by
      have h4 := h.2.keep b h1 h2 h3
      rw [hl.keep b h2 (Nat.lt_of_lt_of_le h2 h.2.size) (by rw [hp_of_same h4]; exact h3), h4], hl.tape.trans h.2.tape, hl.os.trans h.2.os, hl.output.trans h.2.output, fun b h1 h2 => (h.2.tags b h1 h2).trans (hl.tags b h2 (Nat.lt_of_lt_of_le h2 h.2.size))⟩⟩,
   fun G hG => by
    obtain ⟨h1, h2⟩ := S.yv G hG
    exact ⟨h1, h2.and⟩⟩

/-- The state of the machine while the function that is ranged over runs: the record of the loop, and what the activation has. -/
def RX (ro : Option (Nat × Loop)) (B C : Nat) (Inv : Al → World → Prop) (ds : List Deferred) (r0 : Loop) (L : Nat) (js : List Exit) (al : Al) (w : World) : Prop :=
  stOk r0 L js al w ∧
  match al with
  | .on => Ctx ro B C Inv .on ds w
  | .off _ up => Ctx ro B C Inv up ds w

theorem Ctx.lt {ro : Option (Nat × Loop)} {C : Nat} {Inv : Al → World → Prop} (S : Sys P B C Inv y yl) {N : Nat} {al : Al} {ds : List Deferred} {w w' : World} (h : Ctx ro B C Inv al ds w) (hl : Lt N w w') (hC : C ≤ N)
    (hd : ∀ rs : List Nat, ds = rs.map markOf → ∀ r ∈ rs, r < N) (hr : ∀ l r, ro = some (l, r) → l < N) : Ctx ro B C Inv al ds w' := by
  refine ⟨S.st _ _ _ h.inv (hl.mono hC), Nat.le_trans h.size hl.size, ?_, fun l r e => ?_, h.rod⟩
  · obtain ⟨rs, h1, h2, h3⟩ := h.dfs
    refine ⟨rs, h1, h2, fun r hr => ?_⟩
    obtain ⟨a, b⟩ := h3 r hr
    exact ⟨a, by rw [hl.keep r (hd rs h1 r hr) (lt_of_heap b) (hp_deferred b)]; exact b⟩
  · obtain ⟨a, b⟩ := h.rok l r e
    exact ⟨a, by rw [hl.keep l (hr l r e) (lt_of_heap b) (hp_loop b)]; exact b⟩

theorem zip_fold (y : Value) (n : Nat) : ∀ (ps : List Tmp) (vals : List Value) (fr : Fr) (tm : Array Value), ps.length = vals.length → (∀ p ∈ ps, p < n) → Sat y n fr { tmps := tm, defers := [] } →
    Sat y n (Fr.setAll fr ps vals) { tmps := (ps.zip vals).foldl (fun tmps (p : Tmp × Value) => tmps.setIfInBounds p.1 p.2) tm, defers := [] }
  | [], vals, fr, tm, hl, _, hS => by
    cases vals with
    | nil => exact hS
    | cons v vs => simp at hl
  | p :: ps, [], fr, tm, hl, _, hS => by simp at hl
  | p :: ps, v :: vs, fr, tm, hl, hp, hS => by
    simp only [Fr.setAll, List.zip_cons_cons, List.foldl_cons]
    exact zip_fold y n ps vs _ _ (by simpa using hl) (fun q hq => hp q (by simp [hq])) (hS.cons (hp p (by simp)) (.v v) _ rfl)


/-- What is proved of a piece of code. -/
def Snd (P : Program) (T : Tab) (A : Ann) (yl : Option YG) (y : Value) (n B : Nat) (c : Code) : Prop :=
  ∀ (C : Nat) (Inv : Al → World → Prop) (ro : Option (Nat × Loop)), Sys P B C Inv y yl → ∀ (bid : Nat) (fr : Fr) (al : Al) (a : Act) (w : World) (K : KT),
    vc P T A yl n c bid fr (hp w) al K → Sat y n fr a → Ctx ro B C Inv al a.defers w → c.wpIn (Fn (ro.map (·.1))) 0 P (QA y n ro B C Inv (mods c) fr K) a w

theorem Sat.act {fr : Fr} {a a' : Act} (h : Sat y n fr a) (ht : a'.tmps = a.tmps) : Sat y n fr a' := ⟨by rw [ht]; exact h.1, fun i x hx => by rw [ht]; exact h.2 i x hx⟩

/-- What lies at or above B, but for L, stays. -/
structure GeN (B L : Nat) (w w' : World) : Prop where
  size : w.heap.size ≤ w'.heap.size
  keep : ∀ b, B ≤ b → b < w.heap.size → hp w b = none → b ≠ L → w'.heap[b]? = w.heap[b]?
  tape : w'.tape = w.tape
  os : w'.os = w.os
  output : w'.output = w.output
  tags : ∀ b, B ≤ b → b < w.heap.size → b ≠ L → TagLe (tagAt w b) (tagAt w' b)

theorem GeN.of {L : Nat} {w w' : World} (h : Ge B w w') : GeN B L w w' := ⟨h.size, fun b h1 h2 h3 _ => h.keep b h1 h2 h3, h.tape, h.os, h.output, fun b h1 h2 _ => h.tags b h1 h2⟩
theorem GeN.trans {L : Nat} {w w1 w2 : World} (h : GeN B L w w1) (h' : GeN B L w1 w2) : GeN B L w w2 :=
  ⟨Nat.le_trans h.size h'.size, fun b hB hb hn hL => by
    have h1 := h.keep b hB hb hn hL
    rw [h'.keep b hB (Nat.lt_of_lt_of_le hb h.size) (by rw [hp_of_same h1]; exact hn) hL, h1],
    h'.tape.trans h.tape, h'.os.trans h.os, h'.output.trans h.output, fun b hB hb hL => (h.tags b hB hb hL).trans (h'.tags b hB (Nat.lt_of_lt_of_le hb h.size) hL)⟩
theorem GeN.setObj {L : Nat} {w : World} (o' : Obj) : GeN B L w { w with heap := w.heap.setIfInBounds L o' } :=
  ⟨by simp, fun b _ _ _ h => setObj_ne h, rfl, rfl, rfl, fun b _ _ h => .of <| tag_of_same (setObj_ne h)⟩
theorem GeN.ge {L : Nat} {w w' : World} (h : GeN B L w w') (hB : B ≤ L) : Ge (L + 1) w w' :=
  ⟨h.size, fun b h1 h2 h3 => h.keep b (by omega) h2 h3 (by omega), h.tape, h.os, h.output, fun b h1 h2 => h.tags b (by omega) h2 (by omega)⟩

theorem Ctx.geN {ro : Option (Nat × Loop)} {C L : Nat} {Inv : Al → World → Prop} (S : Sys P B C Inv y yl) {al al' : Al} {ds : List Deferred} {w w' : World} (h : Ctx ro B C Inv al ds w) (hi : Inv al' w') (hg : GeN B L w w')
    (hd : ∀ rs : List Nat, ds = rs.map markOf → ∀ r ∈ rs, r < L) (hr : ∀ l r, ro = some (l, r) → l < L) : Ctx ro B C Inv al' ds w' := by
  refine ⟨hi, Nat.le_trans h.size hg.size, ?_, fun l r e => ?_, h.rod⟩
  · obtain ⟨rs, h1, h2, h3⟩ := h.dfs
    refine ⟨rs, h1, h2, fun r hr => ?_⟩
    obtain ⟨a, b⟩ := h3 r hr
    exact ⟨a, by rw [hg.keep r (Nat.le_trans S.le a) (lt_of_heap b) (hp_deferred b) (Nat.ne_of_lt (hd rs h1 r hr))]; exact b⟩
  · obtain ⟨a, b⟩ := h.rok l r e
    exact ⟨a, by rw [hg.keep l a (lt_of_heap b) (hp_loop b) (Nat.ne_of_lt (hr l r e))]; exact b⟩

theorem parSh_len : ∀ {l : List Nat} {shs : List VS}, parSh A l = some shs → shs.length = l.length
  | [], shs, h => by simp only [parSh, Option.some.injEq] at h; subst h; rfl
  | i :: r, shs, h => by
    simp only [parSh] at h
    split at h
    · rename_i s l hs hl
      simp only [Option.some.injEq] at h
      subst h
      simp [parSh_len hl]
    · cases h

/-- The transformer of a round. -/
def RG (P : Program) (T : Tab) (A : Ann) (yl : Option YG) (n : Nat) (shs : List VS) (ps : List Nat) (as body : Code) (bid : Nat) (fr : Fr) : GT := fun vals H1 Kb =>
  liftWs shs vals fun vals => vc P T A yl n as bid (Fr.setAll fr ps vals) H1 .on fun e fr1 H2 al2 => match e, al2 with
    | .normal, .on => vc P T A yl n body bid fr1 H2 .on fun e _ H3 al3 => exK (jmps body) Kb e H3 al3
    | _, _ => False

theorem round_ok {C : Nat} {Inv : Al → World → Prop} {ro : Option (Nat × Loop)} {as body : Code} (ihA : Snd P T A yl y n B as) (ihB : Snd P T A yl y n B body) (S : Sys P B C Inv y yl)
    {shs : List VS} {ps : Array Tmp} {bid : Nat} {fr : Fr} {a : Act} {ds : List Deferred} {L : Nat} {r0 : Loop} {fn : FuncId} (hsh : parSh A ps.toList = some shs) (hps : ps.toList.all (fun p => Nat.blt p n) = true) (hS : Sat y n fr a)
    (hr0 : r0 = { state := .ready, pending := none, fn := fn, tmps := a.tmps, params := ps, assign := as, body := body, defers := r0.defers }) (hCL : C ≤ L)
    (hmk : ∀ rs : List Nat, ds = rs.map markOf → ∀ r ∈ rs, r < L) (hrl : ∀ l r, ro = some (l, r) → l < L) :
    YOk P L (RG P T A yl n shs ps.toList as body bid fr) (L + 1) (RX ro B C Inv ds r0 L (jmps body)) := by
  have hBL : B ≤ L := Nat.le_trans S.le hCL
  intro vals Kb w hX hG
  obtain ⟨hst, hC⟩ := hX
  simp only [stOk] at hst
  simp only at hC
  obtain ⟨hG, hlen⟩ := liftWs_elim hG
  have hpl := parSh_len hsh
  have hsz : vals.length = ps.size := by rw [hlen, hpl]; simp
  refine ⟨r0.fn, (r0.params.zip ⟨vals⟩).foldl (fun tmps (t, a) => tmps.setIfInBounds t a) r0.tmps, r0.assign, r0.body, ?_, ?_⟩
  · have : ¬ ((⟨vals⟩ : Array Value).size ≠ r0.params.size) := by
      rw [hr0]
      show ¬ (vals.length ≠ ps.size)
      omega
    simp only [Instr.yield, Sem.run_bind, run_getLoop hst, Result.andThen_ok, if_neg this]
    rfl
  have ea : r0.assign = as := by rw [hr0]
  have eb : r0.body = body := by rw [hr0]
  rw [ea, eb]
  refine roundIn_of_wpIn (F := Fence.wide) (n := 0) trivial ?_
  have hS0 : Sat y n (Fr.setAll fr ps.toList vals) { tmps := (r0.params.zip ⟨vals⟩).foldl (fun tmps (t, a) => tmps.setIfInBounds t a) r0.tmps, defers := [] } := by
    have := zip_fold y n ps.toList vals fr a.tmps (by simp [hsz]) (fun p hp => by have := List.all_eq_true.1 hps p hp; simpa [Nat.blt_eq] using this) (hS.act rfl)
    have e1 : r0.params = ps := by rw [hr0]
    have e2 : r0.tmps = a.tmps := by rw [hr0]
    rw [e1, e2, ← Array.foldl_toList]
    simpa using this
  have S1 := S.and w hC.size
  have C1 : Ctx (some (L, r0)) B w.heap.size (fun al W => Inv al W ∧ Ge B w W) .on [] w :=
    ⟨⟨hC.inv, Ge.refl _ _⟩, Nat.le_refl _, ⟨[], rfl, List.nodup_nil, fun r hr => by cases hr⟩, fun l r e => by cases e; exact ⟨hBL, hst⟩, fun _ _ => rfl⟩
  have hA := ihA _ _ (some (L, r0)) S1 bid _ .on _ w _ hG hS0 C1
  refine wpIn_mono hA ?_
  rintro e a1 w1 ⟨fr1, al1, hS1, hk, hC1, _⟩
  cases e with
  | normal =>
    cases al1 with
    | off e up => exact hk.elim
    | on =>
      simp only at hk
      have hl1 := (hC1.rok L r0 rfl).2
      have hbr := run_beginRound (P := P) hl1 (by rw [hr0])
      refine ⟨_, hbr, ?_⟩
      generalize hw2 : ({ w1 with heap := w1.heap.setIfInBounds L (.loop { r0 with state := .busy }) } : World) = w2
      have hp2 : hp w2 = hp w1 := by rw [← hw2]; exact hp_setObj hl1 rfl rfl
      have hl2 : w2.heap[L]? = some (.loop { r0 with state := .busy }) := by rw [← hw2]; exact setObj_get hl1
      have hlt2 : Lt C w1 w2 := by rw [← hw2]; exact Lt.setObj _ hCL
      have hg2 : GeN B L w1 w2 := by rw [← hw2]; exact GeN.setObj _
      have hi2 : Inv .on w2 := S.st _ _ _ hC1.inv.1 hlt2
      have hs2 : C ≤ w2.heap.size := Nat.le_trans hC.size (Nat.le_trans hC1.size hg2.size)
      have S2 := S.and w2 hs2
      have C2 : Ctx (some (L, { r0 with state := .busy })) B w2.heap.size (fun al W => Inv al W ∧ Ge B w2 W) .on a1.defers w2 := by
        have hd1 := hC1.rod _ rfl
        rw [hd1]
        exact ⟨⟨hi2, Ge.refl _ _⟩, Nat.le_refl _, ⟨[], rfl, List.nodup_nil, fun r hr => by cases hr⟩, fun l r e => by cases e; exact ⟨hBL, hl2⟩, fun _ _ => rfl⟩
      rw [← hp2] at hk
      have hB' := ihB _ _ (some (L, { r0 with state := .busy })) S2 bid _ .on a1 w2 _ hk hS1 C2
      refine wpIn_mono hB' ?_
      rintro e a3 w3 ⟨fr3, al3, _, hk3, hC3, _⟩
      have hl3 := (hC3.rok L _ rfl).2
      have hg13 : GeN B L w w3 := ((GeN.of hC1.inv.2).trans hg2).trans (GeN.of hC3.inv.2)
      have fin : ∀ (r' : Loop), hp ({ w3 with heap := w3.heap.setIfInBounds L (.loop r') } : World) = hp w3 ∧ GeN B L w ({ w3 with heap := w3.heap.setIfInBounds L (.loop r') } : World) ∧
          Inv al3 ({ w3 with heap := w3.heap.setIfInBounds L (.loop r') } : World) := fun r' =>
        ⟨hp_setObj hl3 rfl rfl, hg13.trans (GeN.setObj _), S.st _ _ _ hC3.inv.1 (Lt.setObj _ hCL)⟩
      have jump : ∀ (e : Exit) (c : Code), jcode e = c → (match idxE (jmps body) e with
          | some j => Kb (.off j al3) (hp w3)
          | none => False) → ∃ v w', (Instr.endRound L (some c)).run P w3 = .ok v w' ∧
          ∃ al, Ending.returned v = .returned (.bool al.isOn) ∧ Kb al (hp w') ∧ RX ro B C Inv ds r0 L (jmps body) al w' ∧ Ge (L + 1) w w' := by
        intro e c hc hk
        subst hc
        split at hk <;> try exact hk.elim
        rename_i j hj
        obtain ⟨hj1, hj2⟩ := idxE_spec hj
        obtain ⟨f1, f2, f3⟩ := fin { r0 with state := .done, pending := some (jcode e) }
        refine ⟨_, _, run_endRound (P := P) hl3 (some (jcode e)), .off j al3, rfl, ?_, ⟨⟨e, hj1, hj2, ?_⟩, ?_⟩, ?_⟩
        · simp only [Option.isNone_some, Bool.false_eq_true, if_false]; rw [f1]; exact hk
        · exact setObj_get hl3
        · exact hC.geN S f3 f2 hmk hrl
        · exact f2.ge hBL
      cases e with
      | normal =>
        cases al3 with
        | off e up => exact hk3.elim
        | on =>
          simp only [exK] at hk3
          obtain ⟨f1, f2, f3⟩ := fin { r0 with state := .ready, pending := none }
          have er : ({ r0 with state := .ready, pending := none } : Loop) = r0 := by rw [hr0]
          refine ⟨_, _, run_endRound (P := P) hl3 none, .on, rfl, ?_, ⟨?_, ?_⟩, ?_⟩
          · simp only [Option.isNone_none, if_true]; rw [f1]; exact hk3
          · simp only [stOk, Option.isNone_none, if_true]
            rw [← er]
            exact setObj_get hl3
          · exact hC.geN S f3 f2 hmk hrl
          · exact f2.ge hBL
      | exit id => exact jump (.exit id) _ rfl hk3
      | ret => exact jump .ret _ rfl hk3
      | goto l => exact jump (.goto l) _ rfl hk3
      | panic c =>
        simp only [exK] at hk3
        split at hk3 <;> try exact hk3.elim
        rename_i j hj
        have := (idxE_spec hj).2
        cases this
      | outgrown =>
        simp only [exK] at hk3
        split at hk3 <;> try exact hk3.elim
        rename_i j hj
        have := (idxE_spec hj).2
        cases this
  | exit id => exact hk.elim
  | ret => exact hk.elim
  | goto l => exact hk.elim
  | panic c => exact hk.elim
  | outgrown => exact hk.elim

theorem hp_alloc_obj {w : World} {o : Obj} (h : objB o = none) : hp (w.alloc o) = hp w := by
  funext b
  simp only [hp, World.alloc]
  rw [Array.getElem?_push]
  by_cases e : b = w.heap.size
  · subst e; simp [h]
  · simp [e]

theorem alloc_get (w : World) (o : Obj) : (w.alloc o).heap[w.heap.size]? = some o := by
  show (w.heap.push o)[w.heap.size]? = some o
  simp
theorem alloc_old {w : World} {o : Obj} {b : Nat} (h : b < w.heap.size) : (w.alloc o).heap[b]? = w.heap[b]? := by
  simp only [World.alloc]
  rw [Array.getElem?_push]
  simp [Nat.ne_of_lt h]

theorem enter_ok {C : Nat} {Inv : Al → World → Prop} {ro : Option (Nat × Loop)} (S : Sys P B C Inv y yl) {as body : Code} {ps : Array Tmp} {a : Act} {w : World} (hC : Ctx ro B C Inv .on a.defers w) (fn : FuncId) :
    ∃ (L : Nat) (mark : List Deferred) (w1 : World) (r0 : Loop), (Instr.enterLoop fn a.tmps ps as body (ro.map (·.1))).run P w = .ok (L, mark) w1 ∧ hp w1 = hp w ∧ w.heap.size ≤ L ∧ L < w1.heap.size ∧
        w1.heap[L]? = some (.loop r0) ∧ r0 = { state := .ready, pending := none, fn := fn, tmps := a.tmps, params := ps, assign := as, body := body, defers := r0.defers } ∧
        Ctx ro B C Inv .on (mark ++ a.defers) w1 ∧ (∀ rs : List Nat, mark ++ a.defers = rs.map markOf → ∀ r ∈ rs, r < L) ∧ (∀ l r, ro = some (l, r) → l < L) := by
  have hold : ∀ rs : List Nat, a.defers = rs.map markOf → ∀ r ∈ rs, r < w.heap.size := by
    intro rs h r hr
    obtain ⟨rs', h1, hnd, h3⟩ := hC.dfs
    clear hnd
    have hinj : rs = rs' := by
      have : rs.map markOf = rs'.map markOf := by rw [← h, ← h1]
      have inj : ∀ (x z : Nat), markOf x = markOf z → x = z := fun x z e => by
        have := congrArg Deferred.target e
        simpa [markOf] using this
      clear h h1 h3 hr
      induction rs generalizing rs' with
      | nil => cases rs' with
        | nil => rfl
        | cons x xs => simp at this
      | cons x xs ih => cases rs' with
        | nil => simp at this
        | cons z zs =>
          simp only [List.map_cons, List.cons.injEq] at this
          rw [inj x z this.1, ih zs this.2]
    subst hinj
    exact lt_of_heap (h3 r hr).2
  cases ro with
  | none =>
    let r0 : Loop := { state := .ready, pending := none, fn := fn, tmps := a.tmps, params := ps, assign := as, body := body, defers := w.heap.size }
    refine ⟨w.heap.size + 1, [markOf w.heap.size], (w.alloc (.deferred (some []))).alloc (.loop r0), r0, ?_, ?_, by omega, by simp, ?_, rfl, ?_, ?_, fun l r e => by cases e⟩
    · simp [Instr.enterLoop, markOf, r0]
    · rw [hp_alloc_obj rfl, hp_alloc_obj rfl]
    · have := alloc_get (w.alloc (.deferred (some []))) (.loop r0)
      simpa using this
    · have hg : Ge 0 w ((w.alloc (.deferred (some []))).alloc (.loop r0)) := (Ge.alloc _ _).trans (Ge.alloc _ _)
      have h1 := hC.ge0 S hg
      refine ⟨h1.inv, h1.size, ?_, h1.rok, fun x e => by cases e⟩
      obtain ⟨rs, g1, g2, g3⟩ := h1.dfs
      refine ⟨w.heap.size :: rs, by rw [g1]; rfl, ?_, ?_⟩
      · rw [List.nodup_cons]
        refine ⟨fun hm => ?_, g2⟩
        have := hold rs g1 _ hm
        omega
      · intro r hr
        rcases List.mem_cons.1 hr with rfl | hr
        · refine ⟨hC.size, ?_⟩
          rw [alloc_old (by simp)]
          exact alloc_get _ _
        · exact g3 r hr
    · intro rs h r hr
      cases rs with
      | nil => cases hr
      | cons x xs =>
        simp only [List.singleton_append, List.map_cons, List.cons.injEq] at h
        have hx : w.heap.size = x := by
          have := congrArg Deferred.target h.1
          simpa [markOf] using this
        rcases List.mem_cons.1 hr with rfl | hr
        · omega
        · have := hold xs h.2 r hr
          omega
  | some lr =>
    obtain ⟨l, lrec⟩ := lr
    obtain ⟨hBl, hl⟩ := hC.rok l lrec rfl
    let r0 : Loop := { state := .ready, pending := none, fn := fn, tmps := a.tmps, params := ps, assign := as, body := body, defers := lrec.defers }
    refine ⟨w.heap.size, [], w.alloc (.loop r0), r0, ?_, hp_alloc_obj rfl, Nat.le_refl _, by simp, alloc_get _ _, rfl, hC.ge0 S (Ge.alloc _ _), ?_, ?_⟩
    · simp [Instr.enterLoop, run_getLoop hl, r0]
    · simpa using hold
    · intro l' r' e
      cases e
      exact lt_of_heap hl

theorem snd_rangeFunc {f : Operand} {ps : Array Tmp} {as body : Code} (ihA : Snd P T A yl y n B as) (ihB : Snd P T A yl y n B body) : Snd P T A yl y n B (.rangeFunc f ps as body) := by
  intro C Inv ro S bid fr al a w K h hS hC
  simp only [vc] at h
  split at h <;> try exact h.elim
  rename_i g shs hg hsh
  cases hps : ps.toList.all (fun p => Nat.blt p n) with
  | false => rw [hps] at h; exact h.elim
  | true =>
    rw [hps] at h
    simp only [cond_true] at h
    have hag := ev_eval hS hg
    obtain ⟨k, first, cap, rfl, hent, hiter⟩ := ITERV_elim h
    refine wpIn_rangeFunc fun fn _ => ?_
    obtain ⟨L, mark, w1, r0, he, hh1, hwL, hL1, hr0, hr0e, hC1, hmk, hrl⟩ := enter_ok (as := as) (body := body) (ps := ps) S hC fn
    have hCL : C ≤ L := Nat.le_trans hC.size hwL
    have hBL : B ≤ L := Nat.le_trans S.le hCL
    refine ⟨L, mark, w1, { target := .fn (.func k) cap, args := first ++ #[yv L] }, w1, k, ⟨first.toList ++ (yv L :: cap.toList)⟩, w1, he, ?_, fun _ _ => trivial, ?_, fun hd => (by cases hd), ?_⟩
    · have ha1 : (#[Operand.const (yv L)] : Array Operand).map a.eval = #[yv L] := by simp [Act.eval]
      simp only [resolve, hag, Deferred.ofValue]
      have e2 : (#[Operand.const (Value.func (Fn.yield L) #[] #[])] : Array Operand).map a.eval = #[yv L] := ha1
      rw [e2]
      rfl
    · simp only [invoke]
      rw [run_callFunc hent]
      congr 2
      apply Array.ext'
      simp
    · refine callsIn_wide.2 ?_
      refine (hiter w1 L (RX ro B C Inv (mark ++ a.defers) r0 L (jmps body)) hh1 hL1 ?_ ⟨hr0, hC1⟩ (round_ok ihA ihB S hsh hps hS hr0e hCL hmk hrl)).mono ?_
      · intro al w' w'' hX hl
        obtain ⟨hst, hX⟩ := hX
        refine ⟨?_, ?_⟩
        · cases al with
          | on => simp only [stOk] at hst ⊢; rw [hl.keep L (by omega) (lt_of_heap hst) (hp_loop hst)]; exact hst
          | off j up =>
            obtain ⟨e, q1, q2, q3⟩ := hst
            exact ⟨e, q1, q2, by rw [hl.keep L (by omega) (lt_of_heap q3) (hp_loop q3)]; exact q3⟩
        · cases al with
          | on => exact Ctx.lt S hX hl (by omega) (fun rs h r hr => by have := hmk rs h r hr; omega) (fun l r e => by have := hrl l r e; omega)
          | off e up => exact Ctx.lt S hX hl (by omega) (fun rs h r hr => by have := hmk rs h r hr; omega) (fun l r e => by have := hrl l r e; omega)
      · rintro e w3 ⟨v, al3, rfl, hk, ⟨hst, hX⟩, _⟩
        have done : ∀ (r' rr : Loop) (al' : Al), w3.heap[L]? = some (.loop rr) → Ctx ro B C Inv al' (mark ++ a.defers) w3 → hp ({ w3 with heap := w3.heap.setIfInBounds L (.loop r') } : World) = hp w3 ∧
            Ctx ro B C Inv al' (mark ++ a.defers) ({ w3 with heap := w3.heap.setIfInBounds L (.loop r') } : World) := fun r' rr al' hl hc =>
          ⟨hp_setObj hl rfl rfl, Ctx.lt S hc (Lt.setObj _ (Nat.le_refl L)) hCL hmk hrl⟩
        cases al3 with
        | on =>
          simp only [stOk] at hst
          simp only at hX hk
          obtain ⟨d1, d2⟩ := done { r0 with state := .exhausted } r0 .on hst hX
          have ep : r0.pending = none := by rw [hr0e]
          refine ⟨none, _, (run_endLoop (P := P) hst (by rw [hr0e]; simp)).trans (congrArg (fun p => Result.ok p _) ep), ?_⟩
          exact ⟨fr, .on, hS.act rfl, by rw [d1]; exact hk, d2, Agr.refl _ _⟩
        | off j up =>
          obtain ⟨e, q1, hj, hst⟩ := hst
          simp only at hX hk
          have hk := selJ_spec q1 hk
          obtain ⟨d1, d2⟩ := done { r0 with state := .exhausted, pending := some (jcode e) } _ up hst hX
          refine ⟨_, _, run_endLoop (P := P) hst (by simp), ?_⟩
          have hq : QA y n ro B C Inv (mods (.rangeFunc f ps as body)) fr K e { a with defers := mark ++ a.defers } ({ w3 with heap := w3.heap.setIfInBounds L (.loop { r0 with state := .exhausted, pending := some (jcode e) }) } : World) :=
            ⟨fr, up, hS.act rfl, by rw [d1]; exact hk, d2, Agr.refl _ _⟩
          cases e with
          | exit id => exact wpIn_exit hq
          | ret => exact wpIn_ret hq
          | normal => cases hj
          | goto l => cases hj
          | panic c => cases hj
          | outgrown => cases hj

end
end Go.V
