/- Contracts. -/
import Derived.Test.YtimgnhleaekmhaaDoorB2
namespace Go.Proofs.YtimgnhleaekmhaaDoor
open Go.V
/-! ### What the laws of bits start with -/
theorem count_ext {s t : Nat → Bool} {n : Nat} (h : ∀ i, i < n → s i = t i) : els s n = els t n := by
  unfold els
  apply List.filter_congr
  intro x hx
  exact h x (by simpa using hx)
theorem centolaw1_known.c {H : Hp} {K : Bool → Hp → Prop} (hT : Tz H) (hK : ∀ H', Le H H' → K true H') : centolaw1_known.C H K := by
  apply centolaw1_known.of
  refine bits_New.c hT fun r q H1 u1 hr hq le1 => ?_
  rw [show (min (max (5 : Int) 0) 1000).toNat = 5 by decide] at u1
  refine bcd (fun h => by cases h) fun _ => ?_
  refine bits_Row_Put.c u1 fun H2 u2 m2 _ => ?_
  refine bits_Row_Put.c u2 fun H3 u3 m3 _ => ?_
  have e3 : ∀ i, putB (putB (fun _ => false) 5 3 true) 5 9 true i = decide (i = 3) := fun i => by
    unfold putB
    by_cases e : i = 3
    · subst e; simp
    · rw [if_neg (by omega), if_neg (by omega)]; simp [e]
  have u3 := u3.congr (s' := fun i => decide (i = 3)) fun i => (e3 i).symm
  refine bits_Row_All.c u3 fun p l c H4 s4 n4 le4 => ?_
  rw [show els (fun i => decide (i = 3)) 5 = [3] by decide] at s4
  have u4 := u3.le le4
  refine bits_Row_Len.c u4 ?_
  refine bcd (fun _ => ?_) fun h => absurd rfl h
  refine bits_Row_Has.c u4 ?_
  rw [show hasB (fun i => decide (i = 3)) 3 = true by decide]
  refine bcT (bits_Row_Has.c u4 ?_)
  rw [show hasB (fun i => decide (i = 3)) 9 = false by decide]
  refine bcT (bits_Row_Count.c u4 fun H5 le5 => ?_)
  rw [show (els (fun i => decide (i = 3)) 5).length = 1 by decide]
  have u5 := u4.le le5
  refine bcd (fun _ => ?_) fun h => absurd rfl h
  have hl := s4.len
  refine bcd (fun _ => ?_) fun h => absurd (by rw [hl]; rfl) h
  refine slI (s4.le le5) (g := fun n => (n : Int)) (fun _ => rfl) (by decide) (by rw [hl]; decide) fun _ => ?_
  refine bcd (fun _ => ?_) fun h => absurd (by rfl) h
  have hq' : ∀ b ∈ [q], H b = none := fun b hb => by simp at hb; subst hb; exact hq
  have leA : Le H H5 := (((m2.trans m3).le le1 hq').trans le4).trans le5
  refine bits_New.c u5.tz fun r2 q2 H6 u6 hr2 hq2 le6 => ?_
  rw [show (min (max (5 : Int) 0) 1000).toNat = 5 by decide] at u6
  refine bits_Row_Same.c (u5.le le6) u6 ?_
  rw [show sameB (fun i => decide (i = 3)) (fun _ => false) 5 = false by decide, Bool.and_false]
  refine bcT ?_
  refine bits_New.c u6.tz fun r3 q3 H7 u7 hr3 hq3 le7 => ?_
  refine bits_Row_Same.nil u7 ?_
  refine bcT ?_
  refine bits_Row_Or.nil ((u5.le le6).le le7) fun H8 le8 => ?_
  exact hK H8 (((leA.trans le6).trans le7).trans le8)

end Go.Proofs.YtimgnhleaekmhaaDoor
