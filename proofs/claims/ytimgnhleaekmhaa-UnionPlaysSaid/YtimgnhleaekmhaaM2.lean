/- Contracts. -/
import Derived.Test.YtimgnhleaekmhaaM1
namespace Go.Proofs.Ytimgnhleaekmhaa
open Go.V
/-! ### Laws of the longest common part -/
theorem lcs_comm : ∀ a b : List ByteArray, lcs a b = lcs b a
  | [], b => by rw [lcs_nil]; simp [lcs]
  | x :: a, [] => by simp [lcs]
  | x :: a, y :: b => by
    rw [lcs, lcs, lcs_comm a b, lcs_comm a (y :: b), lcs_comm (x :: a) b, Nat.max_comm]
    by_cases h : x = y
    · rw [if_pos h, if_pos h.symm]
    · rw [if_neg h, if_neg (Ne.symm h)]
termination_by a b => a.length + b.length

theorem lcs_up : ∀ a : List ByteArray, (∀ b y, lcs a (y :: b) ≤ lcs a b + 1) ∧ (∀ b x, lcs a b ≤ lcs (x :: a) b)
  | [] => ⟨fun _ _ => by simp [lcs], fun _ _ => by simp [lcs]⟩
  | z :: a => by
    have ih := lcs_up a
    have h1 : ∀ b y, lcs (z :: a) (y :: b) ≤ lcs (z :: a) b + 1 := by
      intro b y
      rw [lcs]
      have := ih.1 b y
      have := ih.2 b z
      split <;> omega
    refine ⟨h1, fun b x => ?_⟩
    cases b with
    | nil => simp [lcs]
    | cons y b =>
      rw [lcs.eq_3 x]
      have := h1 b y
      split <;> omega
theorem lcs_right (a b : List ByteArray) (y : ByteArray) : lcs a b ≤ lcs a (y :: b) := by
  rw [lcs_comm a b, lcs_comm a (y :: b)]; exact (lcs_up b).2 a y

section
variable (a b : List ByteArray)
def V (i k : Nat) : Nat := lcs (a.drop i) (b.drop k)
variable {a b}
theorem V_down (i k : Nat) : V a b (i + 1) k ≤ V a b i k := by
  unfold V
  by_cases h : i < a.length
  · rw [List.drop_eq_getElem_cons h]; exact (lcs_up _).2 _ _
  · rw [lcs_end (.inl (by omega))]; omega
theorem V_right (i k : Nat) : V a b i (k + 1) ≤ V a b i k := by
  unfold V
  by_cases h : k < b.length
  · rw [List.drop_eq_getElem_cons h]; exact lcs_right _ _ _
  · rw [lcs_end (.inr (by omega))]; omega

/-- The places p, q make a first pair of a matching n long. -/
def Mt (a b : List ByteArray) (n p q : Nat) : Prop := p < a.length ∧ q < b.length ∧ a[p]? = b[q]? ∧ V a b (p + 1) (q + 1) + 1 = n

theorem V_stay {i : Nat} (hi : i < a.length) : ∀ (d k : Nat), b.length - k = d → (∀ q, k ≤ q → ¬ Mt a b (V a b i k) i q) → V a b (i + 1) k = V a b i k
  | 0, k, hd, _ => by unfold V; rw [lcs_end (.inr (by omega)), lcs_end (.inr (by omega))]
  | d + 1, k, hd, h => by
    have hk : k < b.length := by omega
    have hat := lcs_at hi hk
    have hne : ¬ a[i] = b[k] := fun e => h k (Nat.le_refl _) ⟨hi, hk, by rw [List.getElem?_eq_getElem hi, List.getElem?_eq_getElem hk, e], by unfold V; rw [hat, if_pos e]⟩
    rw [if_neg hne] at hat
    have h1 := V_right (a := a) (b := b) (i + 1) k
    have h2 := V_down (a := a) (b := b) i k
    by_cases e : V a b i (k + 1) = V a b i k
    · have := V_stay hi d (k + 1) (by omega) (fun q hq => e ▸ h q (by omega))
      omega
    · have h3 := V_right (a := a) (b := b) i k
      unfold V at *
      omega

theorem V_stays {i k : Nat} : ∀ (p : Nat), i ≤ p → p ≤ a.length → (∀ p' q, i ≤ p' → p' < p → k ≤ q → ¬ Mt a b (V a b i k) p' q) → V a b p k = V a b i k
  | 0, h, _, _ => by have : i = 0 := by omega
                     subst this; rfl
  | p + 1, h, hp, hn => by
    by_cases e : i = p + 1
    · subst e; rfl
    · have ih := V_stays (i := i) (k := k) p (by omega) (by omega) (fun p' q h1 h2 h3 => hn p' q h1 (by omega) h3)
      rw [V_stay (by omega) _ k rfl (fun q hq => ih ▸ hn p q (by omega) (by omega) hq), ih]

/-- The longest matching that begins first, from two places on. -/
inductive Gr (a b : List ByteArray) : Nat → Nat → List (Int × Int) → Prop
  | nil {i k : Nat} : V a b i k = 0 → Gr a b i k []
  | cons {i k p q : Nat} {r : List (Int × Int)} : i ≤ p → k ≤ q → Mt a b (V a b i k) p q → (∀ p' q', i ≤ p' → k ≤ q' → (p' < p ∨ (p' = p ∧ q' < q)) → ¬ Mt a b (V a b i k) p' q') → Gr a b (p + 1) (q + 1) r → Gr a b i k (((p : Int), (q : Int)) :: r)

theorem Gr.uniq {i k : Nat} {r r' : List (Int × Int)} (h : Gr a b i k r) (h' : Gr a b i k r') : r = r' := by
  induction h generalizing r' with
  | nil hv =>
    cases h' with
    | nil _ => rfl
    | cons _ _ hm _ _ => have := hm.2.2.2; omega
  | @cons i k p q r hi hk hm hl hr ih =>
    cases h' with
    | nil hv => have := hm.2.2.2; omega
    | @cons _ _ p' q' r' hi' hk' hm' hl' hr' =>
      have e : p = p' ∧ q = q' := by
        by_cases h1 : p' < p ∨ (p' = p ∧ q' < q)
        · exact absurd hm' (hl p' q' hi' hk' h1)
        · by_cases h2 : p < p' ∨ (p = p' ∧ q < q')
          · exact absurd hm (hl' p q hi hk h2)
          · omega
      obtain ⟨rfl, rfl⟩ := e
      rw [ih hr']

theorem Gr.length {i k : Nat} {r : List (Int × Int)} (h : Gr a b i k r) : r.length = V a b i k := by
  induction h with
  | nil hv => rw [hv]; rfl
  | cons _ _ hm _ _ ih => rw [List.length_cons, ih]; exact hm.2.2.2

/-- A row more that brings nothing. -/
theorem Gr.skip {i k : Nat} {r : List (Int × Int)} (hi : i < a.length) (hn : ∀ q, k ≤ q → ¬ Mt a b (V a b i k) i q) (h : Gr a b (i + 1) k r) : Gr a b i k r := by
  have e := V_stay hi _ k rfl hn
  generalize hj : i + 1 = j at *
  cases h with
  | nil hv => exact .nil (by omega)
  | @cons _ _ p q r h1 h2 h3 h4 h5 =>
    refine .cons (by omega) h2 (e ▸ h3) (fun p' q' g1 g2 g3 => ?_) h5
    by_cases hp : p' = i
    · subst hp; exact hn q' g2
    · exact e ▸ h4 p' q' (by omega) g2 g3
theorem Gr.none {i k : Nat} (h : a.length ≤ i ∨ b.length ≤ k) : Gr a b i k [] := .nil (lcs_end h)
end
end Go.Proofs.Ytimgnhleaekmhaa
