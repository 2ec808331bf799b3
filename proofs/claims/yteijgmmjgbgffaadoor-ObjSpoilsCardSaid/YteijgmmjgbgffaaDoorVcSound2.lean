/- The reckoner is sound: all code. -/
import Derived.Test.YteijgmmjgbgffaaDoorVcSound
namespace Go.V
set_option linter.unusedSectionVars false
variable [Sp]

/-- What a piece of code leaves, and which slots it leaves alone. -/
def QA (y : Value) (n : Nat) (ro : Option (Nat × Loop)) (B C : Nat) (Inv : Al → World → Prop) (ms : List Nat) (fr : Fr) (K : KT) : Exit → Act → World → Prop :=
  fun e a w => ∃ fr' al, Sat y n fr' a ∧ K e fr' (hp w) al ∧ Ctx ro B C Inv al a.defers w ∧ Agr ms fr fr'

theorem stepR_scope {P : Program} {b : Frame} {a : Act} {k : List Item} {cs : List Frame} {w : World} {c : Code} :
    step P (lone (b.atR a (.code (.scope c) :: k)) cs w) = .next (lone (b.atR a (.code c :: .inScope c :: k)) cs w) :=
  step_lone_go (by simp [stepG, stepG.exec, Frame.atR])

theorem stepR_inScope {P : Program} {b : Frame} {a : Act} {k : List Item} {cs : List Frame} {w : World} {c : Code} :
    step P (lone (b.atR a (.inScope c :: k)) cs w) = .next (lone (b.atR a k) cs w) :=
  step_lone_go (by simp [stepG, stepG.exec, Frame.atR])

theorem wpIn_scope {F : Fence} {n : Nat} {P : Program} {c : Code} {Q : Exit → Act → World → Prop} {a : Act} {w : World}
    (h : c.wpIn F n P (fun e a w => (∀ l, e ≠ .goto l) ∧ Q e a w) a w) : (Code.scope c).wpIn F n P Q a w := by
  intro b k cs hro hb hr
  have h0 : (lone (b.atR a (.code (.scope c) :: k)) cs w).fenced P F := fenced_calm hb hr rfl
  obtain ⟨e, a₁, w₁, ⟨hng, hq⟩, harr⟩ := h b (.inScope c :: k) cs hro hb hr
  cases e with
  | normal => exact ⟨.normal, a₁, w₁, hq, .head h0 stepR_scope (StepsIn.trans harr (.one (fenced_calm hb hr rfl) stepR_inScope))⟩
  | exit id =>
    have hx : exitTo id (.inScope c :: k) = exitTo id k := by simp [exitTo]
    exact ⟨.exit id, a₁, w₁, hq, fun k' hk => .head h0 stepR_scope (harr.1 k' (by rw [hx]; exact hk)),
      fun hr' hk => let ⟨k₁, h1, h2⟩ := harr.2 hr' (by rw [hx]; exact hk); ⟨k₁, h1, .head h0 stepR_scope h2⟩⟩
  | goto l => exact absurd rfl (hng l)
  | ret => exact ⟨_, a₁, w₁, hq, .of_steps (.one h0 stepR_scope) harr⟩
  | panic ch => exact ⟨_, a₁, w₁, hq, .of_steps (.one h0 stepR_scope) harr⟩
  | outgrown => exact ⟨_, a₁, w₁, hq, .of_steps (b := b) (k := k) (cs := cs) (e := .outgrown) (.one h0 stepR_scope) harr⟩

section
variable {P : Program} {T : Tab} {A : Ann} {yl : Option YG} {y : Value} {n : Nat} {B C : Nat} {Inv : Al → World → Prop} {ro : Option (Nat × Loop)}

/-! ### Frames at a loop's head -/
theorem get_drop {ms : List Nat} : ∀ (fr : Fr) (i : Nat) (x : AV), (fr.drop ms).get i = some x → i ∉ ms ∧ fr.get i = some x
  | [], i, x, h => by simp [Fr.drop, Fr.get] at h
  | (j, z) :: r, i, x, h => by
    unfold Fr.drop at h
    rw [List.filter_cons] at h
    cases hm : ms.any (Nat.beq j) with
    | true =>
      simp only [hm, Bool.not_true, Bool.false_eq_true, if_false] at h
      obtain ⟨h1, h2⟩ := get_drop r i x h
      refine ⟨h1, ?_⟩
      have hne : Nat.beq j i = false := by
        cases hb : Nat.beq j i with
        | false => rfl
        | true =>
          have := Nat.eq_of_beq_eq_true hb
          subst this
          obtain ⟨m, hm1, hm2⟩ := List.any_eq_true.1 hm
          have := Nat.eq_of_beq_eq_true hm2
          subst this
          exact absurd hm1 h1
      simp [Fr.get, hne, h2]
    | false =>
      simp only [hm, Bool.not_false, if_true] at h
      simp only [Fr.get] at h ⊢
      cases hb : Nat.beq j i with
      | true =>
        rw [hb] at h
        simp only [cond_true] at h ⊢
        refine ⟨fun hi => ?_, h⟩
        have := Nat.eq_of_beq_eq_true hb
        subst this
        have := List.any_eq_false.1 hm j hi
        simp at this
      | false =>
        rw [hb] at h
        simp only [cond_false] at h ⊢
        exact get_drop r i x h

theorem get_setAll : ∀ (is : List Nat) (vs : List Value) (fr : Fr) (i : Nat) (x : AV), (Fr.setAll fr is vs).get i = some x → (∃ (k : Nat) (v : Value), is[k]? = some i ∧ vs[k]? = some v ∧ x = .v v) ∨ fr.get i = some x
  | [], vs, fr, i, x, h => by cases vs <;> exact .inr h
  | j :: is, [], fr, i, x, h => .inr h
  | j :: is, v :: vs, fr, i, x, h => by
    simp only [Fr.setAll] at h
    rcases get_setAll is vs _ i x h with ⟨k, u, h1, h2, h3⟩ | h
    · exact .inl ⟨k + 1, u, by simpa using h1, by simpa using h2, h3⟩
    · simp only [Fr.get] at h
      cases hb : Nat.beq j i with
      | true =>
        rw [hb] at h
        simp only [cond_true, Option.some.injEq] at h
        exact .inl ⟨0, v, by simp [Nat.eq_of_beq_eq_true hb], by simp, h.symm⟩
      | false => rw [hb] at h; exact .inr h

theorem getVals_spec {a : Act} {fr : Fr} (hS : Sat y n fr a) : ∀ {is : List Nat} {vs : List Value}, getVals fr is = some vs → vs = is.map (fun i => a.tmps.getD i undef) ∧ ∀ (k i : Nat) (v : Value), is[k]? = some i → vs[k]? = some v → a.tmps[i]? = some v
  | [], vs, h => by simp only [getVals, Option.some.injEq] at h; subst h; simp
  | i :: is, vs, h => by
    simp only [getVals] at h
    split at h <;> try (cases h; done)
    rename_i v us hv hus
    simp only [Option.some.injEq] at h
    subst h
    obtain ⟨h1, h2⟩ := getVals_spec hS hus
    have h3 := hS.2 i _ hv
    simp only [avV] at h3
    refine ⟨by rw [List.map_cons, ← h1]; simp [h3], fun k j x hk hx => ?_⟩
    cases k with
    | zero => simp at hk hx; subst hk; subst hx; exact h3
    | succ k => exact h2 k j x (by simpa using hk) (by simpa using hx)

theorem sat_head {a : Act} {fr : Fr} {is : List Nat} {vs : List Value} {ms : List Nat} (hn : a.tmps.size = n)
    (h1 : ∀ i x, i ∉ ms → fr.get i = some x → (∀ k : Nat, is[k]? ≠ some i) → a.tmps[i]? = some (avV y x))
    (h2 : ∀ (k i : Nat) (v : Value), is[k]? = some i → vs[k]? = some v → a.tmps[i]? = some v) (hl : is.length = vs.length) : Sat y n (Fr.setAll (fr.drop ms) is vs) a := by
  refine ⟨hn, fun i x hx => ?_⟩
  by_cases hi : ∃ k : Nat, is[k]? = some i
  · have : ∀ (is : List Nat) (vs : List Value) (fr : Fr), (∃ k : Nat, is[k]? = some i) → is.length = vs.length → (Fr.setAll fr is vs).get i = some x → ∃ (k : Nat) (v : Value), is[k]? = some i ∧ vs[k]? = some v ∧ x = .v v := by
      intro is
      induction is with
      | nil => intro vs fr ⟨k, hk⟩; simp at hk
      | cons j is ih =>
        intro vs fr ⟨k, hk⟩ hl hx
        cases vs with
        | nil => simp at hl
        | cons v vs =>
          simp only [Fr.setAll] at hx
          by_cases hex : ∃ k : Nat, is[k]? = some i
          · obtain ⟨k, u, g1, g2, g3⟩ := ih vs _ hex (by simpa using hl) hx
            exact ⟨k + 1, u, by simpa using g1, by simpa using g2, g3⟩
          · rcases get_setAll is vs _ i x hx with ⟨k, u, g1, _, _⟩ | hx
            · exact absurd ⟨k, g1⟩ hex
            · have hji : j = i := by
                cases k with
                | zero => simpa using hk
                | succ k => exact absurd ⟨k, by simpa using hk⟩ hex
              subst hji
              have hb : Nat.beq j j = true := Nat.beq_refl j
              simp only [Fr.get, hb, cond_true, Option.some.injEq] at hx
              exact ⟨0, v, by simp, by simp, hx.symm⟩
    obtain ⟨k, v, g1, g2, rfl⟩ := this is vs _ hi hl hx
    exact h2 k i v g1 g2
  · rcases get_setAll is vs _ i x hx with ⟨k, u, g1, _, _⟩ | hx
    · exact absurd ⟨k, g1⟩ hi
    · obtain ⟨g1, g2⟩ := get_drop fr i x hx
      exact h1 i x g1 g2 (fun k hk => hi ⟨k, hk⟩)

theorem all_app {β : Type} : ∀ {l : List Sh} {F : List Value → Prop} {f : FT l β} {vs : List Value} {r : β}, FT.all l F → FT.app l f vs = some r → F vs
  | [], F, f, vs, r, h, ha => by
    cases vs with
    | nil => exact h
    | cons v vs => simp [FT.app] at ha
  | s :: l, F, f, vs, r, h, ha => by
    cases vs with
    | nil => cases s <;> simp [FT.app] at ha
    | cons v vs =>
      cases s <;> simp only [FT.all] at h
      case any => exact all_app (F := fun vs => F (v :: vs)) (h v) (by simpa only [FT.app] using ha)
      case int k =>
        cases v <;> simp only [FT.app, reduceCtorEq] at ha
        rename_i k' m
        split at ha <;> try (cases ha; done)
        rename_i hk _
        subst hk
        exact all_app (F := fun vs => F (.int _ m :: vs)) (h m) ha
      case bool => cases v <;> simp only [FT.app, reduceCtorEq] at ha; exact all_app (F := fun vs => F (.bool _ :: vs)) (h _) ha
      case str => cases v <;> simp only [FT.app, reduceCtorEq] at ha; exact all_app (F := fun vs => F (.string _ :: vs)) (h _) ha
      case ptr => cases v <;> simp only [FT.app, reduceCtorEq] at ha; exact all_app (F := fun vs => F (.pointer _ :: vs)) (h _) ha
      case slice => cases v <;> simp only [FT.app, reduceCtorEq] at ha; exact all_app (F := fun vs => F (.slice _ _ _ :: vs)) (h _ _ _) ha
      case map => cases v <;> simp only [FT.app, reduceCtorEq] at ha; exact all_app (F := fun vs => F (.map _ :: vs)) (h _) ha

end
end Go.V
