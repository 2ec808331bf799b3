/- The reckoner over code: blocks, loops, ranges over functions. -/
import Derived.Test.YteijgmmjgbgffaaDoorVcDraw2
namespace Go.V
set_option linter.unusedSectionVars false
variable [Sp]

abbrev KT := Exit → Fr → Hp → Al → Prop

def vcReg (P : Program) (T : Tab) (yl : Option YG) (n : Nat) (ops : Array Oper) (draw : Bool) (fr : Fr) (H : Hp) (al : Al) (K : Fr → Hp → Al → Prop) : Prop :=
  match draw with
  | false => vcOps P T yl n ops K (List.range' 0 ops.size) fr H al
  | true => bif drawB ops then vcOps P T yl n ops K (List.range' 0 ops.size) fr H al
    else match drawOrd ops with
      | some l => vcD P T yl n ops K l [] fr H al
      | none => False

/-- Where a round's body is left. -/
def exK (js : List Exit) (Kb : Al → Hp → Prop) (e : Exit) (H : Hp) (al : Al) : Prop :=
  match e with
  | .normal => match al with
    | .on => Kb .on H
    | _ => False
  | e => match idxE js e with
    | some j => Kb (.off j al) H
    | none => False

def vc (P : Program) (T : Tab) (A : Ann) (yl : Option YG) (n : Nat) : Code → Nat → Fr → Hp → Al → KT → Prop
  | .skip, _, fr, H, al, K => K .normal fr H al
  | .label _, _, fr, H, al, K => K .normal fr H al
  | .region _ ops draw, _, fr, H, al, K => vcReg P T yl n ops draw fr H al fun fr' H' al' => K .normal fr' H' al'
  | .seq a b, bid, fr, H, al, K => vc P T A yl n a bid fr H al fun e fr' H' al' => match e with
    | .normal => vc P T A yl n b bid fr' H' al' K
    | e => K e fr' H' al'
  | .cond c x y, bid, fr, H, al, K => match ev fr c with
    | some (.bool t) => bc t (vc P T A yl n x bid fr H al K) (vc P T A yl n y bid fr H al K)
    | _ => False
  | .block id c, _, fr, H, al, K => vc P T A yl n c id fr H al fun e fr' H' al' => match e with
    | .exit id' => bif Nat.beq id' id then K .normal fr' H' al' else K (.exit id') fr' H' al'
    | e => K e fr' H' al'
  | .scope c, bid, fr, H, al, K => vc P T A yl n c bid fr H al fun e fr' H' al' => match e with
    | .goto _ => False
    | e => K e fr' H' al'
  | .exit id, _, fr, H, al, K => K (.exit id) fr H al
  | .ret, _, fr, H, al, K => K .ret fr H al
  | .loop c, bid, fr, H, al, K => match lookN A.loops bid, al with
    | some vars, .on => bif vars.all (fun p => (mods c).any (Nat.beq p.1)) then ∃ (I : FT (shsOf vars) (Hp → Prop)) (μ : FT (shsOf vars) (Hp → Nat)),
        (match getVals fr (vars.map (·.1)) with
         | some vs => match flatV vars vs with
           | some fs => appP I fs H
           | none => False
         | none => False) ∧
        FT.all (shsOf vars) fun fs => ∀ H1, appP I fs H1 →
          vc P T A yl n c bid (Fr.setAll (fr.drop (mods c)) (vars.map (·.1)) (unflat vars fs)) H1 .on fun e fr' H' al' => match e with
            | .normal => match al' with
              | .on => match getVals fr' (vars.map (·.1)) with
                | some vs' => match flatV vars vs' with
                  | some fs' => appP I fs' H' ∧ appN μ fs' H' < appN μ fs H1
                  | none => False
                | none => False
              | _ => False
            | e => K e fr' H' al'
      else False
    | _, _ => False
  | .rangeFunc f ps as body, bid, fr, H, al, K => match al, ev fr f, parSh A ps.toList with
    | .on, some g, some shs => bif ps.toList.all (fun p => Nat.blt p n) then ITERV P g H
        (fun vals H1 Kb => liftWs shs vals fun vals => vc P T A yl n as bid (Fr.setAll fr ps.toList vals) H1 .on fun e fr1 H2 al2 => match e, al2 with
          | .normal, .on => vc P T A yl n body bid fr1 H2 .on fun e _ H3 al3 => exK (jmps body) Kb e H3 al3
          | _, _ => False)
        (fun al' H' => match al' with
          | .on => K .normal fr H' .on
          | .off j up => selJ (jmps body) j fun e => K e fr H' up)
        else False
    | _, _, _ => False
  | _, _, _, _, _, _ => False

/-! ### What is known of the machine between two steps -/
structure Sys (P : Program) (B C : Nat) (Inv : Al → World → Prop) (y : Value) (yl : Option YG) : Prop where
  le : B ≤ C
  st : ∀ al w w', Inv al w → Lt C w w' → Inv al w'
  yv : ∀ G, yl = some G → y = Go.V.yv G.L ∧ YOk P G.L G.g B Inv

def markOf (r : Nat) : Deferred := { target := .collected r, args := #[] }

def Dfs (C : Nat) (ds : List Deferred) (w : World) : Prop :=
  ∃ rs : List Nat, ds = rs.map markOf ∧ rs.Nodup ∧ ∀ r ∈ rs, C ≤ r ∧ w.heap[r]? = some (.deferred (some []))

structure Ctx (ro : Option (Nat × Loop)) (B C : Nat) (Inv : Al → World → Prop) (al : Al) (ds : List Deferred) (w : World) : Prop where
  inv : Inv al w
  size : C ≤ w.heap.size
  dfs : Dfs C ds w
  rok : ∀ l r, ro = some (l, r) → B ≤ l ∧ w.heap[l]? = some (.loop r)
  rod : ∀ x, ro = some x → ds = []

theorem hp_deferred {w : World} {r : Nat} {x : Option (List Deferred)} (h : w.heap[r]? = some (.deferred x)) : hp w r = none := by simp [hp, h, objB]
theorem hp_loop {w : World} {r : Nat} {x : Loop} (h : w.heap[r]? = some (.loop x)) : hp w r = none := by simp [hp, h, objB]
theorem lt_of_heap {w : World} {r : Nat} {x : Obj} (h : w.heap[r]? = some x) : r < w.heap.size := (Array.getElem?_eq_some_iff.1 h).1

section
variable {P : Program} {T : Tab} {A : Ann} {yl : Option YG} {y : Value} {n nn : Nat} {B C : Nat} {Inv : Al → World → Prop} {ro : Option (Nat × Loop)} {ds : List Deferred}

theorem Dfs.ge {w w' : World} (hBC : B ≤ C) (h : Dfs C ds w) (hg : Ge B w w') : Dfs C ds w' := by
  obtain ⟨rs, h1, h2, h3⟩ := h
  refine ⟨rs, h1, h2, fun r hr => ?_⟩
  obtain ⟨a, b⟩ := h3 r hr
  exact ⟨a, by rw [hg.keep r (Nat.le_trans hBC a) (lt_of_heap b) (hp_deferred b)]; exact b⟩

theorem Ctx.ge (S : Sys P B C Inv y yl) {al al' : Al} {w w' : World} (h : Ctx ro B C Inv al ds w) (hi : Inv al' w') (hg : Ge B w w') : Ctx ro B C Inv al' ds w' :=
  ⟨hi, Nat.le_trans h.size hg.size, h.dfs.ge S.le hg, fun l r e => by
    obtain ⟨a, b⟩ := h.rok l r e
    exact ⟨a, by rw [hg.keep l a (lt_of_heap b) (hp_loop b)]; exact b⟩, h.rod⟩

theorem Ctx.ge0 (S : Sys P B C Inv y yl) {al : Al} {w w' : World} (h : Ctx ro B C Inv al ds w) (hg : Ge 0 w w') : Ctx ro B C Inv al ds w' :=
  h.ge S (S.st _ _ _ h.inv hg.lt) (hg.mono (Nat.zero_le _))

/-- What a piece of code leaves. -/
def QQ (y : Value) (n : Nat) (ro : Option (Nat × Loop)) (B C : Nat) (Inv : Al → World → Prop) (K : KT) : Exit → Act → World → Prop :=
  fun e a w => ∃ fr al, Sat y n fr a ∧ K e fr (hp w) al ∧ Ctx ro B C Inv al a.defers w

theorem setD_elim {d : Option Tmp} {fr : Fr} {x : AV} {K : Fr → Prop} {a : Act} (h : setD n d fr x K) (hS : Sat y n fr a) : ∃ fr', Sat y n fr' (a.put d (avV y x)) ∧ K fr' := by
  cases d with
  | none => exact ⟨fr, hS, h⟩
  | some d =>
    simp only [setD] at h
    cases hb : Nat.blt d n with
    | false => rw [hb] at h; exact h.elim
    | true =>
      rw [hb] at h
      exact ⟨_, hS.cons (by simpa [Nat.blt_eq] using hb) x _ rfl, h⟩

theorem put_defers (a : Act) (d : Option Tmp) (v : Value) : (a.put d v).defers = a.defers := by cases d <;> rfl

theorem CallV_elim {f : Value} {args : List Value} {H : Hp} {K : Value → Hp → Prop} (h : CallV P f args H K) :
    ∃ k first cap, f = .func (.func k) first cap ∧ CallH P k (first.toList ++ (args ++ cap.toList)) H K := by
  unfold CallV at h
  split at h <;> try exact h.elim
  exact ⟨_, _, _, rfl, h⟩

theorem ITERV_elim {f : Value} {H : Hp} {G : GT} {K : Al → Hp → Prop} (h : ITERV P f H G K) :
    ∃ k first cap, f = .func (.func k) first cap ∧ ITER P k first.toList cap.toList H G K := by
  unfold ITERV at h
  split at h <;> try exact h.elim
  exact ⟨_, _, _, rfl, h⟩

theorem run_callFunc {k : FuncId} {args : Array Value} {w : World} (h : Ent P k) : (callFunc k args).run P w = .ok (.enter k args) w := by
  obtain ⟨fn, hf, hb, hn⟩ := h
  have hb' : ¬ fn.body = none := by intro e; rw [e] at hb; cases hb
  have hn' : ¬ fn.name = "runtime.NumGoroutine" := by intro e; rw [e] at hn; simp at hn
  simp [callFunc, hf, hn', hb']

/-- An operation that is not passed over: what the walk asks. -/
theorem op_sound (S : Sys P B C Inv y yl) (hT : TOk P T) {o : Oper} {fr : Fr} {a : Act} {w : World} {al : Al} {K : AV → Hp → Al → Prop} {next : Act → World → Prop} {Q : Exit → Act → World → Prop}
    (h : vcOp P T yl o fr (hp w) al K) (hS : Sat y n fr a) (hC : Ctx ro B C Inv al a.defers w)
    (hnext : ∀ x w' al', K x (hp w') al' → Ctx ro B C Inv al' a.defers w' → next (a.put o.dst (avV y x)) w') :
    o.wpIn (Fn (ro.map (·.1))) nn P a w next Q := by
  refine ⟨fun _ _ => trivial, ?_⟩
  cases hq : callOp o.op with
  | false =>
    obtain ⟨x, w', hr, hg, hk⟩ := e_all (fun G hG => (S.yv G hG).1) hT hq h hS
    have hnd : ∀ c, o.op ≠ .defer c := by
      intro c hc
      simp only [vcOp, hc] at h
    rw [Oper.semAt_eq _ _ _ hnd]
    rcases hr with hr | ⟨hr, hx⟩
    · rw [hr]; exact hnext x w' al hk (hC.ge0 S hg)
    · rw [hr]
      have := hnext x w' al hk (hC.ge0 S hg)
      rw [hx] at this
      exact this
  | true =>
    cases ho : o.op <;> rw [ho] at hq <;> try (cases hq; done)
    rename_i c
    have hnd : ∀ c, o.op ≠ .defer c := by intro c' hc'; rw [ho] at hc'; cases hc'
    rw [Oper.semAt_eq _ _ _ hnd]
    cases hc : c.callee with
    | builtin b => obtain ⟨ce, ar, at'⟩ := c; simp only at hc; subst hc; cases hq
    | invoke f m => obtain ⟨ce, ar, at'⟩ := c; simp only at hc; subst hc; cases hq
    | value f =>
      simp only [vcOp, ho, hc] at h
      split at h <;> try exact h.elim
      · rename_i g args hg hargs
        have hag := evA_eval hS hg
        simp only [avV] at hag
        have haa := evsA_eval hS hargs
        have h' : (CallV P g args (hp w) fun v H' => liftRes T o.type v fun v' => K (.v v') H' al) ∨ (∃ G, yl = some G ∧ al = .on ∧ g = yv G.L ∧ G.g args (hp w) fun al' H' => match al' with
            | .on => K (.v (.bool true)) H' .on
            | .off j up => K (.v (.bool false)) H' (.off j up)) := by
          split at h
          · rename_i G
            cases hf : isF f with
            | true => rw [hf] at h; exact .inl h
            | false =>
              rw [hf] at h
              rcases h with ⟨h1, h2⟩ | h
              · exact .inr ⟨G, rfl, rfl, h1, h2⟩
              · exact .inl h
          · exact .inl h
        clear h
        rcases h' with h | ⟨G, hyl, rfl, hgL, h⟩
        · obtain ⟨k, first, cap, rfl, hch⟩ := CallV_elim h
          rcases hch w rfl with ⟨hent, hcall⟩ | ⟨_, hx⟩
          rotate_left
          · obtain ⟨v, w', hr, hk, hge⟩ := hx
            have hrun : (execOp a.eval o).run P w = .ok (.value v) w' := by
              simp only [execOp, ho, resolve, hc, hag, haa, Deferred.ofValue]
              simp only [pure_bind, invoke]
              rw [← hr]
              congr 2
              apply Array.ext'
              simp
            rw [hrun]
            exact hnext (.v v) w' al (liftRes_elim hk) (hC.ge0 S hge)
          have hrun : (execOp a.eval o).run P w = .ok (.enter k ⟨first.toList ++ (args ++ cap.toList)⟩) w := by
            simp only [execOp, ho, resolve, hc, hag, haa, Deferred.ofValue]
            simp only [pure_bind, invoke]
            rw [run_callFunc hent]
            congr 2
            apply Array.ext'
            simp
          rw [hrun]
          refine ⟨fun hd => (by cases hd), callsIn_wide.2 (hcall.mono ?_)⟩
          rintro e w' ⟨v, rfl, hk, hge⟩
          exact hnext (.v v) w' al (liftRes_elim hk) (hC.ge0 S hge)
        · obtain ⟨_, hY⟩ := S.yv G hyl
          obtain ⟨fn, tmps, as, body, hy1, hy2⟩ := hY args _ w hC.inv h
          have hrun : (execOp a.eval o).run P w = .ok (.round G.L fn tmps as body) w := by
            simp only [execOp, ho, resolve, hc, hag, haa, hgL, yv, Deferred.ofValue]
            simp only [pure_bind, invoke]
            have e : (#[] ++ (⟨args⟩ : Array Value)) = ⟨args⟩ := by apply Array.ext'; simp
            rw [e]
            exact hy1
          rw [hrun]
          refine ⟨fun hd => (by cases hd), ?_⟩
          refine ⟨trivial, fun c' cs' _ => ?_⟩
          obtain ⟨e, w', hR, hcm⟩ := hy2.2 c' cs' (room_wide _)
          refine ⟨e, w', ?_, hcm⟩
          obtain ⟨al', rfl, hk, hi, hge⟩ := hR
          cases al' with
          | on => exact hnext _ w' .on hk (hC.ge S hi hge)
          | off j up => exact hnext _ w' (.off j up) hk (hC.ge S hi hge)
      · rename_i args hg hargs
        have hag := evA_eval hS hg
        simp only [avV] at hag
        have haa := evsA_eval hS hargs
        cases hyl : yl with
        | none => rw [hyl] at h; exact h.elim
        | some G =>
          rw [hyl] at h
          cases al with
          | off e up => exact h.elim
          | on =>
            obtain ⟨hyL, hY⟩ := S.yv G hyl
            obtain ⟨fn, tmps, as, body, hy1, hy2⟩ := hY args _ w hC.inv h
            have hrun : (execOp a.eval o).run P w = .ok (.round G.L fn tmps as body) w := by
              simp only [execOp, ho, resolve, hc, hag, haa, hyL, yv, Deferred.ofValue]
              simp only [pure_bind, invoke]
              have e : (#[] ++ (⟨args⟩ : Array Value)) = ⟨args⟩ := by apply Array.ext'; simp
              rw [e]
              exact hy1
            rw [hrun]
            refine ⟨fun hd => (by cases hd), ?_⟩
            refine ⟨trivial, fun c' cs' _ => ?_⟩
            obtain ⟨e, w', hR, hcm⟩ := hy2.2 c' cs' (room_wide _)
            refine ⟨e, w', ?_, hcm⟩
            obtain ⟨al', rfl, hk, hi, hge⟩ := hR
            cases al' with
            | on => exact hnext _ w' .on hk (hC.ge S hi hge)
            | off j up => exact hnext _ w' (.off j up) hk (hC.ge S hi hge)

end
end Go.V
