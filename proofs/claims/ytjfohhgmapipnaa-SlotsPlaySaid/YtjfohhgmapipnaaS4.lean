/- Contracts. -/
import Derived.Test.YtjfohhgmapipnaaS3
namespace Go.Proofs.Ytjfohhgmapipnaa
open Go.V
/-! ### Join -/
theorem sv_size (x : BL) : (mkB x).size = x.length := rfl
theorem flat_take {xs : List BL} {i : Nat} (h : i < xs.length) : (xs.take (i + 1)).flatten = (xs.take i).flatten ++ xs[i] := by
  rw [List.take_add_one, List.getElem?_eq_getElem h, List.flatten_append]
  simp only [Option.toList, List.flatten_cons, List.flatten_nil, List.append_nil]
theorem flat_one {xs : List BL} (h : 0 < xs.length) : (xs.take 1).flatten = xs[0] := by rw [flat_take (i := 0) h]; rfl
theorem flat_le {xs : List BL} (i : Nat) : (xs.take i).flatten.length ≤ xs.flatten.length := by
  conv => rhs; rw [← List.take_append_drop i xs, List.flatten_append, List.length_append]
  omega
theorem mkB_nil : mkB [] = bs [] := rfl
/-- A slice of texts: one of them. -/
theorem slT {H : Hp} {p : Option Addr} {l c' : Nat} {xs : List BL} (h : Sl sv H p l c' xs) {i : Int} {F : ByteArray → Prop} (h0 : 0 ≤ i) (hi : i < l) (hF : (hi : i.toNat < xs.length) → F (mkB xs[i.toNat])) : IDX i l fun j => NIL p fun b o => ldS (rd H b (o + j)) F :=
  sl_nil h h0 hi fun _ _ hi e => ⟨_, e, hF hi⟩
theorem strings_Join.c {p : Option Addr} {l c' : Nat} {xs : List BL} {H : Hp} {K : ByteArray → Hp → Prop} (hx : Sl sv H p l c' xs) (hl : xs.length ≤ 1000000000) (hlen : xs.flatten.length ≤ 1000000000) (hK : ∀ H', Le H H' → K (mkB xs.flatten) H') : strings_Join.C p l c' (bs []) H K := by
  apply strings_Join.of
  have e1 := hx.len
  refine bcd (fun h => ?_) (fun h0 => bcd (fun h => ?_) (fun h1 => bcd (fun h => by cases h) (fun _ => ?_)))
  · have : xs = [] := List.length_eq_zero_iff.1 (by omega)
    subst this
    exact hK H (Le.refl _)
  · obtain ⟨x, rfl⟩ : ∃ x, xs = [x] := List.length_eq_one_iff.1 (by omega)
    refine slT hx (by omega) (by omega) fun hi => ?_
    have h2 : [x].flatten = x := by simp
    rw [h2] at hK
    exact hK H (Le.refl _)
  · unfold strings_Join.k2
    refine ⟨fun n i H' => H' = H ∧ 0 ≤ i ∧ i ≤ l ∧ n = ((xs.take i.toNat).flatten.length : Nat), fun _ i _ => ((l : Int) - i).toNat, ⟨rfl, by omega, by omega, by simp⟩, ?_⟩
    rintro n i H1 ⟨rfl, g0, g1, rfl⟩
    have hn := @flat_le xs i.toNat
    refine bcd (fun h => ?_) (fun h => ?_)
    · refine slT hx g0 h fun hi => ?_
      rw [sv_size]
      have hn1 := @flat_le xs (i.toNat + 1)
      rw [flat_take hi, List.length_append] at hn1
      refine chk (by omega) (bcd (fun h => by omega) (fun _ => chk (by omega) (chk (by omega) ⟨⟨rfl, by omega, by omega, ?_⟩, by dsimp only; omega⟩)))
      rw [show (i + 1).toNat = i.toNat + 1 by omega, flat_take hi, List.length_append]; omega
    · have hi : i.toNat = xs.length := by omega
      rw [hi, List.take_length]
      intro b hb
      refine strings_Builder_Grow.c (Bd.new (A := H1) hb (by simp [upd])) (Le.upd hb) (by omega) fun p1 c1 H2 hB hA2 _ hc _ => ?_
      have hx2 := hx.le hA2
      refine slT hx2 (by omega) (by omega) fun hi0 => ?_
      refine strings_Builder_WriteString.c hB hA2 (.inl rfl) (by rw [sv_size]; have := @flat_le xs 1; rw [flat_one (by omega)] at this; show 0 + xs[0].length ≤ _; omega) fun p2 c2 k2 H3 hB3 hA3 _ _ hk => ?_
      refine ⟨1, rfl, by omega, ?_⟩
      refine ⟨fun i H' => 0 ≤ i ∧ i ≤ l - 1 ∧ Le H1 H' ∧ ∃ p c' , Bd H1 H' b p c' 0 (xs.take (i.toNat + 1)).flatten, fun i _ => ((l : Int) - i).toNat, ⟨by omega, by omega, hA3, p2, c2, ?_⟩, ?_⟩
      · have : k2 = 0 := by rcases hk with ⟨h, _⟩ | ⟨h, _⟩ <;> exact h
        subst this
        have hB3' : Bd H1 H3 b p2 c2 0 xs[0] := hB3
        show Bd H1 H3 b p2 c2 0 (xs.take 1).flatten
        rw [← flat_one (by omega)] at hB3'
        exact hB3'
      · rintro i H4 ⟨g2, g3, g4, p4, c4, hB4⟩
        have hn1 := @flat_le xs (i.toNat + 1)
        refine bcd (fun h => ?_) (fun h => ?_)
        · have hs := (hx.le g4).slice (j := 1) (k := l) (by omega) (by omega)
          refine slT hs g2 (by omega) fun hi => ?_
          refine strings_Builder_WriteString.c hB4 g4 (.inl rfl) (by rw [show (bs []).size = 0 from rfl]; omega) fun p5 c5 k5 H5 hB5 hA5 _ _ hk5 => ?_
          have hk5' : k5 = 0 := by rcases hk5 with ⟨h, _⟩ | ⟨h, _⟩ <;> exact h
          subst hk5'
          have e0 : (bs []).data.toList = [] := rfl
          rw [e0, List.append_nil] at hB5
          have hget : ((xs.take l).drop 1)[i.toNat]'hi = xs[i.toNat + 1]'(by omega) := by
            simp only [List.getElem_drop, List.getElem_take, Nat.add_comm]
          have hn2 := @flat_le xs (i.toNat + 1 + 1)
          rw [flat_take (by omega), List.length_append] at hn2
          rw [hget]
          refine strings_Builder_WriteString.c hB5 hA5 (.inl rfl) (by rw [sv_size]; omega) fun p6 c6 k6 H6 hB6 hA6 _ _ hk6 => ?_
          have hk6' : k6 = 0 := by rcases hk6 with ⟨h, _⟩ | ⟨h, _⟩ <;> exact h
          subst hk6'
          refine chk (by omega) ⟨⟨by omega, by omega, hA6, p6, c6, ?_⟩, by dsimp only; omega⟩
          rw [show (i + 1).toNat + 1 = i.toNat + 1 + 1 by omega, flat_take (by omega)]
          exact hB6
        · have hi : i.toNat + 1 = xs.length := by omega
          rw [hi, List.take_length] at hB4
          exact strings_Builder_String.c hB4 g4 (by omega) fun H5 _ hA5 _ => hK H5 hA5
theorem split_Join.c {p : Option Addr} {l c' : Nat} {xs : List BL} {H : Hp} {K : ByteArray → Hp → Prop} (hx : Sl sv H p l c' xs) (hl : xs.length ≤ 1000000000) (hlen : xs.flatten.length ≤ 1000000000) (hK : ∀ H', Le H H' → K (mkB xs.flatten) H') : split_Join.C p l c' H K := by
  apply split_Join.of
  exact strings_Join.c hx hl hlen hK

/-! ### Is -/
/-- Are lines a text's? -/
def isL : List BL → Bool
  | [] => true
  | l :: r => decide (l ≠ [] ∧ 10 ∉ l.dropLast ∧ (r = [] ∨ l.getLast? = some 10)) && isL r
theorem isL_lines (acc l : BL) (h : 10 ∉ acc) : isL (linesA acc l) = true := by
  induction l generalizing acc with
  | nil =>
    unfold linesA
    split
    · rfl
    · rename_i h1
      simp only [isL, Bool.and_true, decide_eq_true_eq, true_or, and_true]
      exact ⟨h1, fun h2 => h (List.dropLast_subset _ h2)⟩
  | cons b l ih =>
    unfold linesA
    split
    · rename_i hb
      subst hb
      simp only [isL, ih [] (by simp), Bool.and_true, decide_eq_true_eq]
      exact ⟨by simp, by simpa using h, .inr (by simp)⟩
    · rename_i hb
      exact ih _ (by simp [h, Ne.symm hb])
theorem lines_of_is : ∀ (xs : List BL), isL xs = true → lines xs.flatten = xs
  | [], _ => rfl
  | l :: r, h => by
    simp only [isL, Bool.and_eq_true, decide_eq_true_eq] at h
    obtain ⟨⟨h1, h2, h3⟩, h4⟩ := h
    have ih := lines_of_is r h4
    by_cases hl : l.getLast? = some 10
    · obtain ⟨m, rfl⟩ := List.getLast?_eq_some_iff.1 hl
      rw [List.dropLast_concat] at h2
      rw [List.flatten_cons, List.append_assoc, List.singleton_append, lines, linesA_line _ _ _ h2, ih]
      simp
    · rcases h3 with h3 | h3
      · subst h3
        have h5 : 10 ∉ l := fun h5 => by
          rw [← List.dropLast_concat_getLast h1] at h5
          rcases List.mem_append.1 h5 with h5 | h5
          · exact h2 h5
          · simp at h5
            exact hl (by rw [List.getLast?_eq_some_getLast h1, h5])
        simp [lines, linesA_last _ _ h5, h1]
      · exact absurd h3 hl
theorem flat_lines (acc l : BL) : (linesA acc l).flatten = acc ++ l := by
  induction l generalizing acc with
  | nil => unfold linesA; split <;> simp_all
  | cons b l ih =>
    unfold linesA
    split
    · rw [List.flatten_cons, ih]; simp
    · rw [ih]; simp
theorem is_iff (xs : List BL) : isL xs = decide (lines xs.flatten = xs) := by
  by_cases h : lines xs.flatten = xs
  · rw [decide_eq_true h, ← h]
    exact isL_lines [] _ (by simp)
  · rw [decide_eq_false h]
    cases hh : isL xs with
    | false => rfl
    | true => exact absurd (lines_of_is xs hh) h
/-- One of the lines, as a program asks it. -/
def okL (l : BL) (last : Bool) : Bool := !(decide (l = []) || (decide (0 ≤ Lib.indexByte l 10) && decide (Lib.indexByte l 10 < (l.length : Int) - 1)) || (decide (Lib.indexByte l 10 < 0) && !last))
theorem okL_eq (l : BL) (last : Bool) : okL l last = decide (l ≠ [] ∧ 10 ∉ l.dropLast ∧ (last = true ∨ l.getLast? = some 10)) := by
  by_cases h0 : l = []
  · subst h0; simp [okL]
  · have hpos : 0 < l.length := List.length_pos_iff.2 h0
    unfold okL
    rcases indexByte_spec l 10 with ⟨e, hn⟩ | ⟨i, e, hi, hn, hd⟩
    · have h1 : 10 ∉ l.dropLast := fun h => hn (List.dropLast_subset _ h)
      have h2 : l.getLast? ≠ some 10 := fun h => hn (List.mem_of_getLast? h)
      rw [e]
      cases last <;> simp [h0, h1, h2]
    · rw [e]
      by_cases hil : i = l.length - 1
      · have e1 : l.take i ++ [10] = l := by rw [← take_cut hi hd, List.take_of_length_le (by omega)]
        have h1 : 10 ∉ l.dropLast := by rw [← e1, List.dropLast_concat]; exact hn
        have h2 : l.getLast? = some 10 := by rw [← e1]; simp
        have h3 : ¬ ((i : Int) < (l.length : Int) - 1) := by omega
        simp [h0, h1, h2, h3]
      · have h1 : 10 ∈ l.dropLast := by
          have : l[i]? = some 10 := by
            have := take_cut hi hd
            have h5 : (l.take (i + 1))[i]? = some 10 := by rw [this, List.getElem?_append_right (by simp; omega)]; simp [show min i l.length = i by omega]
            rwa [List.getElem?_take_of_lt (by omega)] at h5
          have h6 : l.dropLast[i]? = some 10 := by rw [List.getElem?_dropLast, if_pos (by omega)]; exact this
          exact List.mem_of_getElem? h6
        have h3 : (i : Int) < (l.length : Int) - 1 := by omega
        simp [h0, h1, h3]
theorem isL_drop {xs : List BL} {i : Nat} (h : i < xs.length) : isL (xs.drop i) = (okL xs[i] (decide (i + 1 = xs.length)) && isL (xs.drop (i + 1))) := by
  rw [List.drop_eq_getElem_cons h, isL, okL_eq]
  congr 1
  apply decide_eq_decide.2
  rw [decide_eq_true_eq]
  have : xs.drop (i + 1) = [] ↔ i + 1 = xs.length := by rw [List.drop_eq_nil_iff]; omega
  rw [this]
theorem split_Is.c {p : Option Addr} {l c' : Nat} {xs : List BL} {H : Hp} {K : Bool → Hp → Prop} (hx : Sl sv H p l c' xs) (hl : xs.length ≤ 1000000000) (hlen : ∀ x ∈ xs, x.length ≤ 1000000000) (hK : K (isL xs) H) : split_Is.C p l c' H K := by
  apply split_Is.of
  have e1 := hx.len
  refine ⟨fun i H' => H' = H ∧ 0 ≤ i ∧ i ≤ l ∧ isL (xs.drop i.toNat) = isL xs, fun i _ => ((l : Int) - i).toNat, ⟨rfl, by omega, by omega, by simp⟩, ?_⟩
  rintro i H1 ⟨rfl, g0, g1, g2⟩
  refine bcd (fun h => ?_) (fun h => ?_)
  · refine slT hx g0 h fun hi => ?_
    have hxl := hlen _ (List.getElem_mem hi)
    refine strings_Index.c ?_
    rw [isL_drop hi] at g2
    rw [L_mk, sv_size]
    generalize hx' : xs[i.toNat] = x at *
    have hok : okL x (decide (i.toNat + 1 = xs.length)) = false → K false H1 := fun h => by rw [h] at g2; rw [← g2] at hK; exact hK
    have hnx : okL x (decide (i.toNat + 1 = xs.length)) = true → (0 ≤ i + 1 ∧ i + 1 ≤ l ∧ isL (xs.drop (i + 1).toNat) = isL xs) := fun h => by
      rw [h, Bool.true_and] at g2
      exact ⟨by omega, by omega, by rw [show (i + 1).toNat = i.toNat + 1 by omega]; exact g2⟩
    unfold okL at hok hnx
    have hlast : (i < (l : Int) - 1) ↔ ¬ (i.toNat + 1 = xs.length) := by omega
    refine bcd (fun h1 => ?_) (fun h1 => bcd (fun h2 => chk (by omega) (bcd (fun h3 => ?_) (fun h3 => ?_))) (fun h2 => ?_))
    · have : x = [] := by rw [eq_iff_L] at h1; simpa using h1
      exact hok (by simp [this])
    · exact hok (by simp [h2, h3])
    · have h4 : ¬ Lib.indexByte x 10 < 0 := by omega
      refine bcd (fun h => absurd h h4) (fun _ => chk (by omega) ?_)
      have hx0 : x ≠ [] := fun e => h1 (by rw [e]; rfl)
      obtain ⟨a1, a2, a3⟩ := hnx (by simp [hx0, h3, h4])
      exact ⟨⟨rfl, a1, a2, a3⟩, by dsimp only; omega⟩
    · have h4 : Lib.indexByte x 10 < 0 := by omega
      have hx0 : x ≠ [] := fun e => h1 (by rw [e]; rfl)
      refine bcd (fun _ => chk (by omega) (bcd (fun h5 => ?_) (fun h5 => chk (by omega) ?_))) (fun h => absurd h4 h)
      · exact hok (by simp [h4, hlast.1 h5])
      · obtain ⟨a1, a2, a3⟩ := hnx (by simp [hx0, h2, show i.toNat + 1 = xs.length by omega])
        exact ⟨⟨rfl, a1, a2, a3⟩, by dsimp only; omega⟩
  · rw [List.drop_of_length_le (by omega)] at g2
    rw [← g2] at hK
    exact hK
end Go.Proofs.Ytjfohhgmapipnaa
