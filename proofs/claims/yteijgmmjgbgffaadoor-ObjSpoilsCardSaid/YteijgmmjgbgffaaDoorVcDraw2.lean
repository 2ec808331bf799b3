/- A region that draws its order, whatever it holds: what looks may be put off; what it has read must stand until then. -/
import Derived.Test.YteijgmmjgbgffaaDoorVcDraw
namespace Go.V
set_option linter.unusedSectionVars false
variable [Sp]

/-- Must i wait for j, at however many removes? -/
def reach (ops : Array Oper) : Nat → Nat → Nat → Bool
  | 0, _, _ => false
  | f + 1, i, j => match ops[i]? with
    | none => false
    | some o => o.after.toList.any fun e => Region.binds .any e && (Nat.beq e.on j || reach ops f e.on j)

def noDefB (ops : Array Oper) : Bool := ops.all fun o => match o.op with | .defer _ => false | _ => true

def isQ (ops : Array Oper) (i : Nat) : Bool :=
  match ops[i]? with
  | some o => quietOp o.op
  | none => false

/-- The order that the reckoner takes: what looks first; then each that may be next. -/
inductive Ord where
  | done
  | one (i : Nat) (t : Ord)
  | alt (i : Nat) (t : Ord) (r : Ord)
  | stop

def altsB (go : Nat → Option Ord) : List Nat → Option Ord
  | [] => some .stop
  | i :: r => match go i, altsB go r with
    | some t, some u => some (.alt i t u)
    | _, _ => none

def ordB (ops : Array Oper) : Nat → Array Bool → Option Ord
  | 0, listed => match Region.ready .any ops listed with
    | [] => some .done
    | _ => none
  | f + 1, listed => match (Region.ready .any ops listed).find? (fun i => isQ ops i && Region.free .any ops listed i) with
    | some i => match ordB ops f (listed.setIfInBounds i true) with
      | some l => some (.one i l)
      | none => none
    | none => match Region.ready .any ops listed with
      | [] => some .done
      | [i] => match ordB ops f (listed.setIfInBounds i true) with
        | some l => some (.one i l)
        | none => none
      | l => altsB (fun i => ordB ops f (listed.setIfInBounds i true)) l

def drawOrd (ops : Array Oper) : Option Ord :=
  bif Region.noSelect ops && noDefB ops then ordB ops ops.size (Array.replicate ops.size false) else none

abbrev Held := List (Nat × List (Nat × Nat × Value))

def hh1 (H : Hp) : List (Nat × Nat × Value) → Prop → Prop
  | [], F => F
  | (b, o, v) :: r, F => rd H b o = some v ∧ hh1 H r F
def hhs (H : Hp) : Held → Prop → Prop
  | [], F => F
  | (_, r) :: h, F => hh1 H r (hhs H h F)
def keepH (ops : Array Oper) (i : Nat) (h : Held) : Held := h.filter fun e => !reach ops ops.size i e.1
def addH (i : Nat) (r : List (Nat × Nat × Value)) (h : Held) : Held :=
  match r with
  | [] => h
  | r => (i, r) :: h

/-- One operation of such a region. -/
def vcDS (P : Program) (T : Tab) (yl : Option YG) (n : Nat) (ops : Array Oper) (i : Nat) (K : Held → Fr → Hp → Al → Prop) (held : Held) (fr : Fr) (H : Hp) (al : Al) : Prop :=
    match ops[i]? with
    | none => False
    | some o =>
      match o.guard with
      | none => vcOp P T yl o fr H al fun x H' al' =>
          bif quietOp o.op then setD n o.dst fr x fun fr' => K (addH i (ldCells T fr o x) held) fr' H' al'
          else hhs H' (keepH ops i held) (setD n o.dst fr x fun fr' => K (keepH ops i held) fr' H' al')
      | some (j, want) =>
        match (ops[j]?).bind (·.dst) with
        | none => False
        | some s => match fr.get s with
          | some (.v (.bool b)) => bc b
              (match want with
               | true => vcOp P T yl o ((s, .v (.bool true)) :: fr) H al fun x H' al' =>
                  bif quietOp o.op then setD n o.dst ((s, .v (.bool true)) :: fr) x fun fr' => K (addH i (ldCells T ((s, .v (.bool true)) :: fr) o x) held) fr' H' al'
                  else hhs H' (keepH ops i held) (setD n o.dst ((s, .v (.bool true)) :: fr) x fun fr' => K (keepH ops i held) fr' H' al')
               | false => setD n o.dst ((s, .v (.bool true)) :: fr) (.v undef) fun fr' => K held fr' H al)
              (match want with
               | true => setD n o.dst ((s, .v (.bool false)) :: fr) (.v undef) fun fr' => K held fr' H al
               | false => vcOp P T yl o ((s, .v (.bool false)) :: fr) H al fun x H' al' =>
                  bif quietOp o.op then setD n o.dst ((s, .v (.bool false)) :: fr) x fun fr' => K (addH i (ldCells T ((s, .v (.bool false)) :: fr) o x) held) fr' H' al'
                  else hhs H' (keepH ops i held) (setD n o.dst ((s, .v (.bool false)) :: fr) x fun fr' => K (keepH ops i held) fr' H' al'))
          | some (.v (.tuple _)) => setD n o.dst fr (.v undef) fun fr' => K held fr' H al
          | _ => False

def vcD (P : Program) (T : Tab) (yl : Option YG) (n : Nat) (ops : Array Oper) (K : Fr → Hp → Al → Prop) : Ord → Held → Fr → Hp → Al → Prop
  | .done, _, fr, H, al => K fr H al
  | .one i t, held, fr, H, al => vcDS P T yl n ops i (vcD P T yl n ops K t) held fr H al
  | .alt i t .stop, held, fr, H, al => vcDS P T yl n ops i (vcD P T yl n ops K t) held fr H al
  | .alt i t r, held, fr, H, al => vcDS P T yl n ops i (vcD P T yl n ops K t) held fr H al ∧ vcD P T yl n ops K r held fr H al
  | .stop, _, _, _, _ => True

section
variable {P : Program} {ops : Array Oper} {ro : Option Nat} {nn : Nat} {Q : Exit → Act → World → Prop}

theorem hh1_elim {H : Hp} : ∀ {r : List (Nat × Nat × Value)} {F : Prop}, hh1 H r F → HoldsH H r ∧ F
  | [], _, h => ⟨(fun _ hr => by cases hr), h⟩
  | (b, o, v) :: r, F, h => by
    obtain ⟨h1, h2⟩ := h
    obtain ⟨h3, h4⟩ := hh1_elim h2
    refine ⟨fun x hx => ?_, h4⟩
    rcases List.mem_cons.1 hx with rfl | hx
    · exact h1
    · exact h3 x hx
theorem hhs_elim {H : Hp} : ∀ {h : Held} {F : Prop}, hhs H h F → (∀ e ∈ h, HoldsH H e.2) ∧ F
  | [], _, h => ⟨(fun _ hr => by cases hr), h⟩
  | (_, r) :: hs, F, h => by
    obtain ⟨h1, h2⟩ := hh1_elim h
    obtain ⟨h3, h4⟩ := hhs_elim h2
    refine ⟨fun x hx => ?_, h4⟩
    rcases List.mem_cons.1 hx with rfl | hx
    · exact h1
    · exact h3 x hx

/-- In every world where R stands, o yields v. -/
def YA (P : Program) (ops : Array Oper) (R : List (Nat × Nat × Value)) (o : Oper) (v : Value) (a : Act) : Prop := ∀ w, HoldsH (hp w) R → YAt P ops w o v a

theorem YA.put {R : List (Nat × Nat × Value)} {o o' : Oper} {v u : Value} {a : Act} (hs : ∀ cs b, o.op ≠ .select cs b) (h : ∀ d, o'.dst = some d → d ∉ o.looksAt ops) : YA P ops R o v (a.put o'.dst u) ↔ YA P ops R o v a :=
  forall_congr' fun _ => forall_congr' fun _ => YAt.put hs h

theorem wpOpIn_putA {j : Nat} {oi oj : Oper} {v : Value} {R : List (Nat × Nat × Value)} (hj : ops[j]? = some oj) (hap : oi.apart ops oj = true)
    (hsi : ∀ cs b, oi.op ≠ .select cs b) (hsj : ∀ cs b, oj.op ≠ .select cs b) (hdj : ∀ c, oj.op ≠ .defer c)
    (hQ : ∀ c a w, ¬ Q (.panic c) a w) {K : Act → World → Prop} {a : Act} {w : World}
    (hy : YA P ops R oi v a) (h : wpOpIn (Fn ro) nn P ops Q j K (a.put oi.dst v) w) :
    wpOpIn (Fn ro) nn P ops Q j (fun a' w' => YA P ops R oi v a' ∧ K (a'.put oi.dst v) w') a w := by
  obtain ⟨h1, h2, h3⟩ := Oper.apart_spec hap
  have keep : ∀ (a : Act), YA P ops R oi v a → ∀ u, YA P ops R oi v (a.put oj.dst u) := fun a hy u => (YA.put hsi h3).2 hy
  have keepD : ∀ d, YA P ops R oi v { a with defers := d :: a.defers } := fun d => hy
  unfold wpOpIn at *
  simp only [hj] at *
  rw [wanted_put oj a oi.dst v h1, about_put oj w a oi.dst v h1] at h
  split
  · rename_i hw
    simp only [hw, if_true] at h
    unfold Oper.wpIn at *
    rw [about_put oj w a oi.dst v h1] at h
    refine ⟨h.1, ?_⟩
    have h := h.2
    rw [Oper.semAt_eq _ _ _ hdj, execOp_put oj hsj a oi.dst v h1] at h
    rw [Oper.semAt_eq _ _ _ hdj]
    generalize (execOp a.eval oj).run P w = r at *
    cases r with
    | ok x w' =>
      cases x <;> simp only [Oper.uponIn] at h ⊢
      case value u => exact ⟨keep a hy u, by rw [← Act.put_comm a v u h2]; exact h⟩
      case skip => exact ⟨keep a hy _, by rw [← Act.put_comm a v undef h2]; exact h⟩
      case defer d =>
        refine ⟨keep _ (keepD d) _, ?_⟩
        rw [← Act.put_comm _ v undef h2, ← Act.put_defers]
        exact h
      case enter f args =>
        refine ⟨h.1, CallsIn.mono h.2 fun e w'' he => ?_⟩
        cases e with
        | returned u => exact ⟨keep a hy u, by rw [← Act.put_comm a v u h2]; exact he⟩
        | panicked c => exact (hQ _ _ _ he).elim
        | outgrown => exact he
      case row row args => exact ⟨h.1, RowsIn.mono h.2 fun u w'' he => ⟨keep a hy u, by rw [← Act.put_comm a v u h2]; exact he⟩⟩
      case round l f tmps assign body =>
        refine ⟨h.1, RoundIn.mono h.2 fun e w'' he => ?_⟩
        cases e with
        | returned u => exact ⟨keep a hy u, by rw [← Act.put_comm a v u h2]; exact he⟩
        | panicked c => exact (hQ _ _ _ he).elim
        | outgrown => exact he
    | halt x w' =>
      cases x <;> simp only [Oper.uponIn] at h ⊢
      case panic u => exact (hQ _ _ _ h).elim
  · rename_i hw
    simp only [hw] at h
    exact ⟨h.1, keep a hy _, by rw [← Act.put_comm a v undef h2]; exact h.2⟩

/-- Whatever is ready may go next; what is held stands behind each operation that need not wait for it. -/
def AN (P : Program) (ops : Array Oper) (ro : Option Nat) (nn : Nat) (Q : Exit → Act → World → Prop) : Nat → Array Bool → Held → Act → World → Prop
  | 0, listed, _, a, w => Region.ready .any ops listed = [] ∧ Q .normal a w
  | f + 1, listed, held, a, w =>
    (Region.ready .any ops listed = [] → Q .normal a w) ∧
    ∀ i ∈ Region.ready .any ops listed, ∃ o, ops[i]? = some o ∧
      ((quietOp o.op = true ∧ ∃ v R, YA P ops R o v a ∧ HoldsH (hp w) R ∧ AN P ops ro nn Q f (listed.setIfInBounds i true) held (a.put o.dst v) w) ∨
       (wpOpIn (Fn ro) nn P ops Q i (fun a' w' => (∀ e ∈ keepH ops i held, HoldsH (hp w') e.2) ∧ AN P ops ro nn Q f (listed.setIfInBounds i true) (keepH ops i held) a' w') a w))

theorem AN_sub : ∀ (f : Nat) {listed : Array Bool} {held held' : Held} {a : Act} {w : World}, (∀ e ∈ held', e ∈ held) → AN P ops ro nn Q f listed held a w → AN P ops ro nn Q f listed held' a w
  | 0, _, _, _, _, _, _, h => h
  | f + 1, _, held, held', _, _, hs, h => by
    have hk : ∀ i, ∀ e ∈ keepH ops i held', e ∈ keepH ops i held := fun i e he => by
      obtain ⟨h1, h2⟩ := List.mem_filter.1 he
      exact List.mem_filter.2 ⟨hs e h1, h2⟩
    refine ⟨h.1, fun i hi => ?_⟩
    obtain ⟨o, ho, h2⟩ := h.2 i hi
    refine ⟨o, ho, ?_⟩
    rcases h2 with ⟨hq, v, R, h3, h4, h5⟩ | h2
    · exact .inl ⟨hq, v, R, h3, h4, AN_sub f hs h5⟩
    · exact .inr (wpOpIn_mono (fun a' w' h' => ⟨fun e he => h'.1 e (hk i e he), AN_sub f (hk i) h'.2⟩) h2)

def ClosedL (ops : Array Oper) (listed : Array Bool) : Prop :=
  ∀ j oj, ops[j]? = some oj → listed.getD j false = true → ∀ e ∈ oj.after, Region.binds .any e = true → listed.getD e.on false = true

theorem ClosedL.set {listed : Array Bool} {i : Nat} (h : ClosedL ops listed) (hi : i ∈ Region.ready .any ops listed) : ClosedL ops (listed.setIfInBounds i true) := by
  intro j oj hj hl e he hb
  by_cases hij : i = j
  · subst hij
    obtain ⟨_, o, ho, hall⟩ := mem_ready.1 hi
    rw [ho] at hj
    cases hj
    exact getD_set_true (hall e he hb)
  · rw [getD_set_ne false hij] at hl
    exact getD_set_true (h j oj hj hl e he hb)

theorem reach_listed {listed : Array Bool} (hc : ClosedL ops listed) : ∀ (f i j : Nat), (∀ o, ops[i]? = some o → ∀ e ∈ o.after, Region.binds .any e = true → listed.getD e.on false = true) → reach ops f i j = true → listed.getD j false = true
  | 0, _, _, _, h => by cases h
  | f + 1, i, j, hi, h => by
    unfold reach at h
    split at h
    · cases h
    · rename_i o ho
      obtain ⟨e, he, h⟩ := List.any_eq_true.1 h
      simp only [Bool.and_eq_true, Bool.or_eq_true] at h
      have hl := hi o ho e (by simpa using he) h.1
      rcases h.2 with h2 | h2
      · rw [← Nat.eq_of_beq_eq_true h2]; exact hl
      · exact reach_listed hc f e.on j (fun o' ho' e' he' hb' => hc _ _ ho' hl e' he' hb') h2

theorem keepH_cons {i c : Nat} {R : List (Nat × Nat × Value)} {held : Held} (h : reach ops ops.size i c = false) : keepH ops i ((c, R) :: held) = (c, R) :: keepH ops i held := by
  unfold keepH
  rw [List.filter_cons, h]; rfl

/-- What looks may as well go first. -/
theorem AN_first {c : Nat} {oc : Oper} {v : Value} {R : List (Nat × Nat × Value)} (hc : ops[c]? = some oc) (hqc : quietOp oc.op = true) (hsel : ∀ (j : Nat) (o : Oper) cs b, ops[j]? = some o → o.op ≠ .select cs b)
    (hdef : ∀ (j : Nat) (o : Oper) cl, ops[j]? = some o → o.op ≠ .defer cl) (hQ : ∀ c a w, ¬ Q (.panic c) a w) :
    ∀ (f : Nat) (listed : Array Bool) (held : Held) (a : Act) (w : World), ClosedL ops listed →
      (∀ j oj, ops[j]? = some oj → j ≠ c → listed.getD j true = false → (∀ e ∈ oj.after, Region.binds .any e = true → e.on ≠ c) → oc.apart ops oj = true) →
      c ∈ Region.ready .any ops listed → YA P ops R oc v a → HoldsH (hp w) R →
      AN P ops ro nn Q f (listed.setIfInBounds c true) ((c, R) :: held) (a.put oc.dst v) w → AN P ops ro nn Q (f + 1) listed held a w := by
  intro f
  induction f with
  | zero =>
    intro listed held a w hcl hfree hr hy hR H
    refine ⟨fun h => (by rw [h] at hr; cases hr), fun i hi => ?_⟩
    by_cases hic : i = c
    · subst hic; exact ⟨oc, hc, .inl ⟨hqc, v, R, hy, hR, H⟩⟩
    · have := ready_mono hi hic
      rw [H.1] at this
      cases this
  | succ f ih =>
    intro listed held a w hcl hfree hr hy hR H
    have hun := (mem_ready.1 hr).1
    refine ⟨fun h => (by rw [h] at hr; cases hr), fun i hi => ?_⟩
    by_cases hic : i = c
    · subst hic; exact ⟨oc, hc, .inl ⟨hqc, v, R, hy, hR, AN_sub _ (fun e he => List.mem_cons_of_mem _ he) H⟩⟩
    · obtain ⟨oi, hoi, h2⟩ := H.2 i (ready_mono hi hic)
      obtain ⟨hiun, oi', hoi', hall⟩ := mem_ready.1 hi
      have e : oi' = oi := by rw [hoi] at hoi'; exact (Option.some.inj hoi').symm
      subst e
      have hnot : ∀ e ∈ oi'.after, Region.binds .any e = true → e.on ≠ c := fun e he hb heq => by
        have h1 := hall e he hb
        rw [heq, getD_both hun] at h1
        cases h1
      have hap := hfree i oi' hoi hic hiun hnot
      obtain ⟨a1, a2, a3⟩ := Oper.apart_spec hap
      have hfree' : ∀ k ok, ops[k]? = some ok → k ≠ c → (listed.setIfInBounds i true).getD k true = false →
          (∀ e ∈ ok.after, Region.binds .any e = true → e.on ≠ c) → oc.apart ops ok = true := fun k ok hk hkc hun' hno => by
        refine hfree k ok hk hkc ?_ hno
        by_cases hik : i = k
        · subst hik; exact hiun
        · rw [getD_set_ne true hik] at hun'; exact hun'
      refine ⟨oi', hoi, ?_⟩
      rcases h2 with ⟨hq, vi, Ri, h3, h4, h5⟩ | h2
      · refine .inl ⟨hq, vi, Ri, (YA.put (fun cs b => hsel i oi' cs b hoi) a1).1 h3, h4, ?_⟩
        refine ih (listed.setIfInBounds i true) held _ w (hcl.set hi) hfree' (ready_mono hr (Ne.symm hic)) ((YA.put (fun cs b => hsel c oc cs b hc) a3).2 hy) hR ?_
        rw [Array.setIfInBounds_comm _ _ hic, ← Act.put_comm a v vi a2]
        exact h5
      · have hnr : reach ops ops.size i c = false := by
          cases hrc : reach ops ops.size i c with
          | false => rfl
          | true =>
            have := reach_listed hcl ops.size i c (fun o ho e he hb => by rw [hoi] at ho; cases ho; exact hall e he hb) hrc
            rw [getD_both hun] at this
            cases this
        rw [keepH_cons hnr] at h2
        refine .inr (wpOpIn_mono (fun a' w' h3 => ?_) (wpOpIn_putA hoi hap (fun cs b => hsel c oc cs b hc) (fun cs b => hsel i oi' cs b hoi) (fun cl => hdef i oi' cl hoi) hQ hy h2))
        obtain ⟨hy', hk, hA⟩ := h3
        refine ⟨fun e he => hk e (List.mem_cons_of_mem _ he), ?_⟩
        refine ih (listed.setIfInBounds i true) _ a' w' (hcl.set hi) hfree' (ready_mono hr (Ne.symm hic)) hy' (hk (c, R) (List.mem_cons_self ..)) ?_
        rw [Array.setIfInBounds_comm _ _ hic]
        exact hA

theorem wpOpIn_of_YA {i : Nat} {o : Oper} {v : Value} {R : List (Nat × Nat × Value)} {a : Act} {w : World} {K : Act → World → Prop} (ho : ops[i]? = some o) (hy : YA P ops R o v a) (hR : HoldsH (hp w) R) (h : K (a.put o.dst v) w) :
    wpOpIn (Fn ro) nn P ops Q i K a w :=
  wpOpIn_of_stF (w := w) (K := fun a' => K a' w) (fun _ h => h) ((hy w hR).stF ho h)

theorem wpAnyIn_of_AN : ∀ (f : Nat) (listed : Array Bool) (held : Held) (a : Act) (w : World), AN P ops ro nn Q f listed held a w → wpAnyIn (Fn ro) nn P .any ops Q f listed a w
  | 0, _, _, _, _, h => h
  | f + 1, listed, held, a, w, h => by
    refine ⟨h.1, fun i hi => ?_⟩
    obtain ⟨o, ho, h2⟩ := h.2 i hi
    rcases h2 with ⟨_, v, R, h3, h4, h5⟩ | h2
    · exact wpOpIn_of_YA ho h3 h4 (wpAnyIn_of_AN f _ held _ _ h5)
    · exact wpOpIn_mono (fun a' w' h' => wpAnyIn_of_AN f _ _ a' w' h'.2) h2

theorem noDef_spec (h : noDefB ops = true) (j : Nat) (o : Oper) (c : Call) (ho : ops[j]? = some o) : o.op ≠ .defer c := by
  intro heq
  have := Array.all_eq_true_iff_forall_mem.1 h o (Array.mem_of_getElem? ho)
  simp [heq] at this
end
end Go.V
