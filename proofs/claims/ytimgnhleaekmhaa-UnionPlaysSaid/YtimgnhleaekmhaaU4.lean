/- Contracts. -/
import Derived.Test.YtimgnhleaekmhaaU3
namespace Go.Proofs.Ytimgnhleaekmhaa
open Go.V
theorem ne_of_none {H : Hp} {a b : Nat} (ha : H a ≠ none) (hb : H b = none) : a ≠ b := fun e => ha (e ▸ hb)

theorem centolaw6_known.c {H : Hp} {K : Bool → Hp → Prop} (hK : ∀ H', Le H H' → K true H') : centolaw6_known.C H K := by
  apply centolaw6_known.of
  refine union_New.c fun u q H1 u1 hu hq le1 => ?_
  have e0 : List.range (min (max (4 : Int) 0) 1000).toNat = [0, 1, 2, 3] := by decide
  rw [e0] at u1
  refine bcd (fun h => by cases h) fun _ => ?_
  refine union_Union_Join.c u1 fun H2 u2 m2 => ?_
  rw [show jnL [0, 1, 2, 3] 3 1 = [0, 1, 2, 1] by decide] at u2
  rw [show jnB [0, 1, 2, 3] 3 1 = true by decide]
  refine bcn (fun h => by cases h) fun _ => ?_
  refine union_Union_Join.c u2 fun H3 u3 m3 => ?_
  rw [show jnL [0, 1, 2, 1] 1 3 = [0, 1, 2, 1] by decide] at u3
  rw [show jnB [0, 1, 2, 1] 1 3 = false by decide]
  refine union_Union_Join.c u3 fun H4 u4 m4 => ?_
  rw [show jnL [0, 1, 2, 1] 0 4 = [0, 1, 2, 1] by decide] at u4
  rw [show jnB [0, 1, 2, 1] 0 4 = false by decide]
  refine bcF ?_
  refine union_Union_Classes.c u4 (by decide) fun p l c H5 hG u5 m5 => ?_
  rw [show cls [0, 1, 2, 1] = [[0], [1, 3], [2]] by decide] at hG
  refine union_Union_Places.c u5 (by decide) fun pp pc H6 hs hn u6 m6 => ?_
  rw [show plc [0, 1, 2, 1] = [0, 1, 2, 1] by decide] at hs
  refine union_Union_Len.c u6 ?_
  refine bcd (fun _ => ?_) fun h => absurd rfl h
  refine union_Union_Same.c u6 fun H7 u7 m7 => ?_
  rw [show smB [0, 1, 2, 1] 1 3 = true by decide]
  refine union_Union_Same.c u7 fun H8 u8 m8 => ?_
  rw [show smB [0, 1, 2, 1] 0 1 = false by decide]
  refine union_Union_Same.c u8 fun H9 u9 m9 => ?_
  rw [show smB [0, 1, 2, 1] 4 4 = false by decide]
  refine union_Union_Least.c u9 fun H10 u10 m10 => ?_
  rw [show lstI [0, 1, 2, 1] 3 = 1 by decide]
  refine bcd (fun _ => ?_) fun h => absurd rfl h
  refine union_Union_Least.c u10 fun H11 u11 m11 => ?_
  rw [show lstI [0, 1, 2, 1] 9 = -1 by decide]
  refine bcd (fun _ => ?_) fun h => absurd rfl h
  have m711 := ((((m7.trans m8).trans m9).trans m10).trans m11)
  have m6' := m6.trans m711
  have hq4 : ∀ b ∈ [q], H4 b ≠ none := fun b hb => by simp at hb; subst hb; exact u4.q
  have hq5 : ∀ b ∈ [q], H5 b ≠ none := fun b hb => by simp at hb; subst hb; exact u5.q
  have hG' := hG.mod m6' hq4
  have hs' := hs.modF hn m711 hq5
  have hl := hG'.len
  refine bcd (fun _ => ?_) fun h => absurd (by rw [hl]; rfl) h
  refine hG'.at (k := 1) rfl (by decide) fun p1 l1 c1 s1 => ?_
  refine bcd (fun _ => ?_) fun h => absurd (by rw [s1.len]; rfl) h
  refine hG'.at (k := 1) rfl (by decide) fun p1 l1 c1 s1 => ?_
  refine slI s1 (g := fun n => (n : Int)) (fun _ => rfl) (by decide) (by rw [s1.len]; decide) fun _ => ?_
  refine bcd (fun _ => ?_) fun h => absurd (by rfl) h
  refine bcd (fun _ => ?_) fun h => absurd (by rfl) h
  refine slI hs' (g := fun n => (n : Int)) (fun _ => rfl) (by decide) (by decide) fun _ => ?_
  refine bcd (fun _ => ?_) fun h => absurd (by rfl) h
  refine slI hs' (g := fun n => (n : Int)) (fun _ => rfl) (by decide) (by decide) fun _ => ?_
  have hq' : ∀ b ∈ [q], H b = none := fun b hb => by simp at hb; subst hb; exact hq
  exact hK _ (((((m2.trans m3).trans m4).trans m5).trans m6').le le1 hq')

/-! ### Joins in whatever order -/
def inR (k : Nat) (p : Int × Int) : Prop := 0 ≤ p.1 ∧ p.1 < (k : Int) ∧ 0 ≤ p.2 ∧ p.2 < (k : Int)
def JInv (L : List Nat) (ps : List (Int × Int)) : Prop :=
  (∀ p ∈ ps, inR L.length p → lstI L p.1 = lstI L p.2) ∧
  ∀ M : Nat → Nat, (∀ p ∈ ps, inR L.length p → M p.1.toNat = M p.2.toNat) → ∀ i j (hi : i < L.length) (hj : j < L.length), L[i] = L[j] → M i = M j
theorem JInv.nil {n : Nat} : JInv (List.range n) [] := ⟨fun p h => (by cases h), fun M _ i j hi hj e => by simp at e; rw [e]⟩
theorem JInv.step {L : List Nat} {ps : List (Int × Int)} {a b : Int} (h : JInv L ps) : JInv (jnL L a b) (ps ++ [(a, b)]) := by
  by_cases hB : jnB L a b = true
  · have hB' := of_decide_eq_true hB
    obtain ⟨ha, ha', hb, hb', hne⟩ := hB'
    obtain ⟨ia, ea⟩ := lstI_in ⟨ha, ha'⟩
    obtain ⟨ib, eb⟩ := lstI_in ⟨hb, hb'⟩
    have hlen : (jnL L a b).length = L.length := jnL_length
    have hget : ∀ i (hi : i < L.length), (jnL L a b)[i]'(by rw [hlen]; exact hi) = if (L[i] : Int) = max (lstI L a) (lstI L b) then (min (lstI L a) (lstI L b)).toNat else L[i] := fun i hi => by
      simp only [jnL, hB, if_true, List.getElem_map]
    have hlst : ∀ x : Int, 0 ≤ x → x < L.length → lstI (jnL L a b) x = if lstI L x = max (lstI L a) (lstI L b) then min (lstI L a) (lstI L b) else lstI L x := fun x h0 h1 => by
      obtain ⟨ix, ex⟩ := lstI_in (L := jnL L a b) (a := x) ⟨h0, by rw [hlen]; exact h1⟩
      obtain ⟨iy, ey⟩ := lstI_in (L := L) (a := x) ⟨h0, h1⟩
      rw [ex, hget _ iy, ey]
      split <;> omega
    refine ⟨fun p hp hr => ?_, fun M hM i j hi hj e => ?_⟩
    · rw [hlen] at hr
      rw [hlst _ hr.1 hr.2.1, hlst _ hr.2.2.1 hr.2.2.2]
      rcases List.mem_append.1 hp with hp | hp
      · rw [h.1 p hp hr]
      · simp at hp; subst hp
        dsimp only
        split <;> split <;> omega
    · rw [hlen] at hi hj hM
      have h2 := h.2 M fun p hp hr => hM p (List.mem_append_left _ hp) hr
      have hab : M a.toNat = M b.toNat := hM (a, b) (by simp) ⟨ha, ha', hb, hb'⟩
      rw [hget i hi, hget j hj] at e
      have case : ∀ i j (hi : i < L.length) (hj : j < L.length), (L[i] : Int) = max (lstI L a) (lstI L b) → (min (lstI L a) (lstI L b)).toNat = L[j] → M i = M j := fun i j hi hj e1 e2 => by
        rcases Int.lt_or_le (lstI L a) (lstI L b) with hlt | hlt
        · rw [h2 i b.toNat hi ib (by omega), ← hab, h2 a.toNat j ia hj (by omega)]
        · rw [h2 i a.toNat hi ia (by omega), hab, h2 b.toNat j ib hj (by omega)]
      by_cases c1 : (L[i] : Int) = max (lstI L a) (lstI L b)
      · by_cases c2 : (L[j] : Int) = max (lstI L a) (lstI L b)
        · exact h2 i j hi hj (by omega)
        · rw [if_pos c1, if_neg c2] at e; exact case i j hi hj c1 e
      · by_cases c2 : (L[j] : Int) = max (lstI L a) (lstI L b)
        · rw [if_neg c1, if_pos c2] at e; exact (case j i hj hi c2 e.symm).symm
        · rw [if_neg c1, if_neg c2] at e; exact h2 i j hi hj e
  · have e : jnL L a b = L := by unfold jnL; rw [if_neg hB]
    rw [e]
    refine ⟨fun p hp hr => ?_, fun M hM => h.2 M fun p hp hr => hM p (List.mem_append_left _ hp) hr⟩
    rcases List.mem_append.1 hp with hp | hp
    · exact h.1 p hp hr
    · simp at hp; subst hp
      unfold jnB at hB
      simp only [decide_eq_true_eq] at hB
      by_cases hq : lstI L a = lstI L b
      · exact hq
      · exact absurd ⟨hr.1, hr.2.1, hr.2.2.1, hr.2.2.2, hq⟩ hB
theorem JInv.uniq {L L' : List Nat} {ps ps' : List (Int × Int)} (hl : L.length = L'.length) (g : GoodL L) (g' : GoodL L') (h : JInv L ps) (h' : JInv L' ps') (hs : ∀ p : Int × Int, p ∈ ps ↔ (p.2, p.1) ∈ ps') : L = L' := by
  have key : ∀ i j (hi : i < L.length) (hj : j < L.length), L[i] = L[j] ↔ L'[i]'(by omega) = L'[j]'(by omega) := fun i j hi hj => by
    constructor
    · intro e
      have := h.2 (fun x => (lstI L' x).toNat) (fun p hp hr => by
        have := h'.1 (p.2, p.1) ((hs p).1 hp) ⟨by have := hr.2.2.1; exact this, by rw [← hl]; exact hr.2.2.2, hr.1, by rw [← hl]; exact hr.2.1⟩
        rw [Int.toNat_of_nonneg hr.1, Int.toNat_of_nonneg hr.2.2.1, this]) i j hi hj e
      rw [lst_at (show i < L'.length by omega), lst_at (show j < L'.length by omega)] at this
      have hi' : i < L'.length := by omega
      have hj' : j < L'.length := by omega
      simpa [List.getD, hi', hj'] using this
    · intro e
      have := h'.2 (fun x => (lstI L x).toNat) (fun p hp hr => by
        have := h.1 (p.2, p.1) ((hs (p.2, p.1)).2 hp) ⟨by have := hr.2.2.1; exact this, by rw [hl]; exact hr.2.2.2, hr.1, by rw [hl]; exact hr.2.1⟩
        rw [Int.toNat_of_nonneg hr.1, Int.toNat_of_nonneg hr.2.2.1, this]) i j (by omega) (by omega) e
      rw [lst_at hi, lst_at hj] at this
      simpa [List.getD, hi, hj] using this
  apply List.ext_getElem hl
  intro i hi hi'
  obtain ⟨a1, a2, a3⟩ := g i hi
  obtain ⟨b1, b2, b3⟩ := g' i hi'
  have e1 := (key L[i] i a2 hi).1 a3
  have e2 := (key L'[i] i (by omega) hi).2 b3
  have c1 := (g' L[i] (by omega)).1
  have c2 := (g L'[i] (by omega)).1
  omega
end Go.Proofs.Ytimgnhleaekmhaa
