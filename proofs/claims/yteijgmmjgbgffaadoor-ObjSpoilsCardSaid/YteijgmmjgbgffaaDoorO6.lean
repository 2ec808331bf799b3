/- Contracts. -/
import Derived.Test.YteijgmmjgbgffaaDoorO5
namespace Go.Proofs.YteijgmmjgbgffaaDoor
open Go.V
/-! ### The least pairs -/
def betw (M : Nat → Nat → Bool) (a b k : Nat) : Bool := (decide (a ≠ k) && M a k) && (decide (k ≠ b) && M k b)
def redB (M : Nat → Nat → Bool) (hs : List Nat) (a b : Nat) : Bool := (decide (a ≠ b) && M a b) && !hs.any (betw M a b)
def redRow (M : Nat → Nat → Bool) (hs : List Nat) (a : Nat) (bs : List Nat) : List (Int × Int) := (bs.filter (redB M hs a)).map fun (b : Nat) => ((a : Int), (b : Int))
def redTo (M : Nat → Nat → Bool) (hs : List Nat) (i k : Nat) : List (Int × Int) := ((hs.take i).flatMap fun a => redRow M hs a hs) ++ redRow M hs (hs.getD i 0) (hs.take k)
def red (M : Nat → Nat → Bool) (n : Nat) : List (Int × Int) := (hdsM M n).flatMap fun a => redRow M (hdsM M n) a (hdsM M n)
theorem redRow_len {M : Nat → Nat → Bool} {hs : List Nat} {a : Nat} {bs : List Nat} : (redRow M hs a bs).length ≤ bs.length := by unfold redRow; rw [List.length_map]; exact List.length_filter_le _ _
theorem flat_len {α : Type} {f : Nat → List α} {c : Nat} (hf : ∀ x, (f x).length ≤ c) : ∀ l : List Nat, (l.flatMap f).length ≤ l.length * c
  | [] => by simp
  | a :: l => by
    rw [List.flatMap_cons, List.length_append, List.length_cons, Nat.add_mul]
    have := flat_len hf l
    have := hf a
    omega
theorem redTo_len {M : Nat → Nat → Bool} {hs : List Nat} {i k : Nat} (hi : i ≤ hs.length) (hk : k ≤ hs.length) (hl : hs.length ≤ 200) : (redTo M hs i k).length ≤ 40200 := by
  unfold redTo
  rw [List.length_append]
  have h1 := flat_len (f := fun a => redRow M hs a hs) (c := hs.length) (fun x => redRow_len) (hs.take i)
  have h2 : (redRow M hs (hs.getD i 0) (hs.take k)).length ≤ (hs.take k).length := redRow_len
  have h3 : (hs.take i).length * hs.length ≤ 200 * 200 := Nat.mul_le_mul (by rw [List.length_take]; omega) hl
  rw [List.length_take] at h2
  omega
theorem redTo_step {M : Nat → Nat → Bool} {hs : List Nat} {i k : Nat} (hi : i < hs.length) (hk : k < hs.length) : redTo M hs i (k + 1) = redTo M hs i k ++ if redB M hs hs[i] hs[k] then [((hs[i] : Int), (hs[k] : Int))] else [] := by
  have e : hs.getD i 0 = hs[i] := by simp [List.getD, hi]
  unfold redTo redRow
  rw [e, List.take_succ_eq_append_getElem hk, List.filter_append, List.map_append, List.append_assoc]
  congr 2
  cases h : redB M hs hs[i] hs[k] with
  | true => simp [h]
  | false => simp [h]
theorem redTo_next {M : Nat → Nat → Bool} {hs : List Nat} {i k : Nat} (hi : i < hs.length) (hk : hs.length ≤ k) : redTo M hs i k = redTo M hs (i + 1) 0 := by
  have e : hs.getD i 0 = hs[i] := by simp [List.getD, hi]
  unfold redTo
  rw [e, List.take_of_length_le hk, List.take_succ_eq_append_getElem hi, List.flatMap_append]
  simp only [List.flatMap_cons, List.flatMap_nil, List.append_nil, redRow, List.take_zero, List.filter_nil, List.map_nil]
theorem redTo_zero {M : Nat → Nat → Bool} {hs : List Nat} : redTo M hs 0 0 = [] := by unfold redTo; simp [redRow]
theorem redTo_end {M : Nat → Nat → Bool} {hs : List Nat} : redTo M hs hs.length 0 = hs.flatMap fun a => redRow M hs a hs := by unfold redTo; simp [redRow]

end Go.Proofs.YteijgmmjgbgffaaDoor
