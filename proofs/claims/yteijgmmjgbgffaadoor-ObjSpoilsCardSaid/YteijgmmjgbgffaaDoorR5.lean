/- Contracts. -/
import Derived.Test.YteijgmmjgbgffaaDoorR4
namespace Go.Proofs.YteijgmmjgbgffaaDoor
open Go.V
/-! ### What the laws of relations start with -/
theorem sn_lit2 {H : Hp} {b : Nat} {x y z w : Int} : Sn 2 pairC (upd H b [.int .i64 x, .int .i64 y, .int .i64 z, .int .i64 w]) (some ⟨b, 0, none⟩) 2 2 [(x, y), (z, w)] :=
  ⟨rfl, Nat.le_refl _, .inr ⟨b, 0, rfl, fun i hi j v e => by
    rw [rd_upd_self]
    match i, hi with
    | 0, _ => match j, e with
      | 0, e => simp [pairC] at e; subst e; rfl
      | 1, e => simp [pairC] at e; subst e; rfl
      | j + 2, e => simp [pairC] at e
    | 1, _ => match j, e with
      | 0, e => simp [pairC] at e; subst e; rfl
      | 1, e => simp [pairC] at e; subst e; rfl
      | j + 2, e => simp [pairC] at e⟩⟩
theorem sn_lit1 {H : Hp} {b : Nat} {x y : Int} : Sn 2 pairC (upd H b [.int .i64 x, .int .i64 y]) (some ⟨b, 0, none⟩) 1 1 [(x, y)] :=
  ⟨rfl, Nat.le_refl _, .inr ⟨b, 0, rfl, fun i hi j v e => by
    rw [rd_upd_self]
    match i, hi with
    | 0, _ => match j, e with
      | 0, e => simp [pairC] at e; subst e; rfl
      | 1, e => simp [pairC] at e; subst e; rfl
      | j + 2, e => simp [pairC] at e⟩⟩

theorem sameM_refl {M : Nat → Nat → Bool} {n : Nat} : sameM M M n = true := sameM_iff.2 fun _ _ _ _ => rfl
theorem prs_len_le (M : Nat → Nat → Bool) (n : Nat) : (prs M n).length ≤ n * n := by
  unfold prs
  rw [List.length_flatMap]
  have : ∀ l : List Nat, ((l.map fun x => ((els (M x) n).map fun (y : Nat) => ((x : Int), (y : Int))).length)).sum ≤ l.length * n := by
    intro l
    induction l with
    | nil => simp
    | cons x l ih =>
      rw [List.map_cons, List.sum_cons, List.length_cons, Nat.add_mul]
      have := els_len_le (M x) n
      rw [List.length_map]
      omega
  simpa using this (List.range n)

/-- A relation that grows stays apart from one that is. -/
theorem RLO.stay {H : Hp} {R n : Nat} {M : Nat → Nat → Bool} {O P P' : List Nat} (h : RLO H R O n M) (hd : ∀ x ∈ P, x ∉ O) (hP : ∀ x ∈ P', x ∈ P ∨ H x = none) : ∀ x ∈ P', x ∉ O := fun x hx hxO => by
  rcases hP x hx with h' | h'
  · exact hd x h' hxO
  · exact h.there x hxO h'
end Go.Proofs.YteijgmmjgbgffaaDoor
