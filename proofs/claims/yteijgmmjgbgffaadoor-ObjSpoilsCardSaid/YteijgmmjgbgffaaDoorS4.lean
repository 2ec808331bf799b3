/- Contracts. -/
import Derived.Test.YteijgmmjgbgffaaDoorS3
namespace Go.Proofs.YteijgmmjgbgffaaDoor
open Go.V
/-! ### Join -/
theorem sv_size (x : BL) : (mkB x).size = x.length := rfl
theorem flat_take {xs : List BL} {i : Nat} (h : i < xs.length) : (xs.take (i + 1)).flatten = (xs.take i).flatten ++ xs[i] := by
  rw [List.take_add_one, List.getElem?_eq_getElem h, List.flatten_append]
  simp only [Option.toList, List.flatten_cons, List.flatten_nil, List.append_nil]
theorem flat_one {xs : List BL} (h : 0 < xs.length) : (xs.take 1).flatten = xs[0] := by rw [flat_take (i := 0) h]; rfl
theorem flat_le {xs : List BL} (i : Nat) : (xs.take i).flatten.length ≤ xs.flatten.length := by
  conv => rhs; rw [← List.take_append_drop i xs, List.flatten_append, List.length_append]
  omega
theorem mkB_nil : mkB [] = bs [] := rfl
/-- A slice of texts: one of them. -/
theorem slT {H : Hp} {p : Option Addr} {l c' : Nat} {xs : List BL} (h : Sl sv H p l c' xs) {i : Int} {F : ByteArray → Prop} (h0 : 0 ≤ i) (hi : i < l) (hF : (hi : i.toNat < xs.length) → F (mkB xs[i.toNat])) : IDX i l fun j => NIL p fun b o => ldS (rd H b (o + j)) F :=
  sl_nil h h0 hi fun _ _ hi e => ⟨_, e, hF hi⟩
/-! ### Is -/
/-- Are lines a text's? -/
def isL : List BL → Bool
  | [] => true
  | l :: r => decide (l ≠ [] ∧ 10 ∉ l.dropLast ∧ (r = [] ∨ l.getLast? = some 10)) && isL r
theorem isL_lines (acc l : BL) (h : 10 ∉ acc) : isL (linesA acc l) = true := by
  induction l generalizing acc with
  | nil =>
    unfold linesA
    split
    · rfl
    · rename_i h1
      simp only [isL, Bool.and_true, decide_eq_true_eq, true_or, and_true]
      exact ⟨h1, fun h2 => h (List.dropLast_subset _ h2)⟩
  | cons b l ih =>
    unfold linesA
    split
    · rename_i hb
      subst hb
      simp only [isL, ih [] (by simp), Bool.and_true, decide_eq_true_eq]
      exact ⟨by simp, by simpa using h, .inr (by simp)⟩
    · rename_i hb
      exact ih _ (by simp [h, Ne.symm hb])
theorem lines_of_is : ∀ (xs : List BL), isL xs = true → lines xs.flatten = xs
  | [], _ => rfl
  | l :: r, h => by
    simp only [isL, Bool.and_eq_true, decide_eq_true_eq] at h
    obtain ⟨⟨h1, h2, h3⟩, h4⟩ := h
    have ih := lines_of_is r h4
    by_cases hl : l.getLast? = some 10
    · obtain ⟨m, rfl⟩ := List.getLast?_eq_some_iff.1 hl
      rw [List.dropLast_concat] at h2
      rw [List.flatten_cons, List.append_assoc, List.singleton_append, lines, linesA_line _ _ _ h2, ih]
      simp
    · rcases h3 with h3 | h3
      · subst h3
        have h5 : 10 ∉ l := fun h5 => by
          rw [← List.dropLast_concat_getLast h1] at h5
          rcases List.mem_append.1 h5 with h5 | h5
          · exact h2 h5
          · simp at h5
            exact hl (by rw [List.getLast?_eq_some_getLast h1, h5])
        simp [lines, linesA_last _ _ h5, h1]
      · exact absurd h3 hl
theorem flat_lines (acc l : BL) : (linesA acc l).flatten = acc ++ l := by
  induction l generalizing acc with
  | nil => unfold linesA; split <;> simp_all
  | cons b l ih =>
    unfold linesA
    split
    · rw [List.flatten_cons, ih]; simp
    · rw [ih]; simp
theorem is_iff (xs : List BL) : isL xs = decide (lines xs.flatten = xs) := by
  by_cases h : lines xs.flatten = xs
  · rw [decide_eq_true h, ← h]
    exact isL_lines [] _ (by simp)
  · rw [decide_eq_false h]
    cases hh : isL xs with
    | false => rfl
    | true => exact absurd (lines_of_is xs hh) h
/-- One of the lines, as a program asks it. -/
def okL (l : BL) (last : Bool) : Bool := !(decide (l = []) || (decide (0 ≤ Lib.indexByte l 10) && decide (Lib.indexByte l 10 < (l.length : Int) - 1)) || (decide (Lib.indexByte l 10 < 0) && !last))
theorem okL_eq (l : BL) (last : Bool) : okL l last = decide (l ≠ [] ∧ 10 ∉ l.dropLast ∧ (last = true ∨ l.getLast? = some 10)) := by
  by_cases h0 : l = []
  · subst h0; simp [okL]
  · have hpos : 0 < l.length := List.length_pos_iff.2 h0
    unfold okL
    rcases indexByte_spec l 10 with ⟨e, hn⟩ | ⟨i, e, hi, hn, hd⟩
    · have h1 : 10 ∉ l.dropLast := fun h => hn (List.dropLast_subset _ h)
      have h2 : l.getLast? ≠ some 10 := fun h => hn (List.mem_of_getLast? h)
      rw [e]
      cases last <;> simp [h0, h1, h2]
    · rw [e]
      by_cases hil : i = l.length - 1
      · have e1 : l.take i ++ [10] = l := by rw [← take_cut hi hd, List.take_of_length_le (by omega)]
        have h1 : 10 ∉ l.dropLast := by rw [← e1, List.dropLast_concat]; exact hn
        have h2 : l.getLast? = some 10 := by rw [← e1]; simp
        have h3 : ¬ ((i : Int) < (l.length : Int) - 1) := by omega
        simp [h0, h1, h2, h3]
      · have h1 : 10 ∈ l.dropLast := by
          have : l[i]? = some 10 := by
            have := take_cut hi hd
            have h5 : (l.take (i + 1))[i]? = some 10 := by rw [this, List.getElem?_append_right (by simp; omega)]; simp [show min i l.length = i by omega]
            rwa [List.getElem?_take_of_lt (by omega)] at h5
          have h6 : l.dropLast[i]? = some 10 := by rw [List.getElem?_dropLast, if_pos (by omega)]; exact this
          exact List.mem_of_getElem? h6
        have h3 : (i : Int) < (l.length : Int) - 1 := by omega
        simp [h0, h1, h3]
theorem isL_drop {xs : List BL} {i : Nat} (h : i < xs.length) : isL (xs.drop i) = (okL xs[i] (decide (i + 1 = xs.length)) && isL (xs.drop (i + 1))) := by
  rw [List.drop_eq_getElem_cons h, isL, okL_eq]
  congr 1
  apply decide_eq_decide.2
  rw [decide_eq_true_eq]
  have : xs.drop (i + 1) = [] ↔ i + 1 = xs.length := by rw [List.drop_eq_nil_iff]; omega
  rw [this]
end Go.Proofs.YteijgmmjgbgffaaDoor
