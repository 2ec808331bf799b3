/- Contracts. -/
import Derived.Test.YtjfohhgmapipnaaS4
namespace Go.Proofs.Ytjfohhgmapipnaa
open Go.V
/-! ### Fits -/
def fitsL (xs : List BL) : Bool := decide (xs.length ≤ 40 ∧ ∀ x ∈ xs, x.length ≤ 60)
theorem split_Fits.c {s : ByteArray} {H : Hp} {K : Bool → Hp → Prop} (hs : s.size ≤ 1000000000) (hK : ∀ H', Le H H' → K (fitsL (lines (L s))) H') : split_Fits.C s H K := by
  apply split_Fits.of
  intro b1 hb1 b2 hb2
  have n21 : b2 ≠ b1 := fun e => by subst e; simp [upd] at hb2
  have r2 : rd (upd (upd H b1 [.bool false]) b2 [.int .i64 0]) b2 0 = some (.int .i64 0) := by rw [rd_upd_self]; rfl
  refine st r2 ?_
  have r2' := rd_wr_self (v := .int .i64 0) r2
  have r1' : rd (wr (upd (upd H b1 [.bool false]) b2 [.int .i64 0]) b2 0 (.int .i64 0)) b1 0 = some (.bool false) := by rw [rd_wr_ne (Ne.symm n21), rd_upd_ne (Ne.symm n21), rd_upd_self]; rfl
  have le3 : Le H (wr (upd (upd H b1 [.bool false]) b2 [.int .i64 0]) b2 0 (.int .i64 0)) := ((Le.upd hb1).trans (Le.upd hb2)).wr (none_of_le (Le.upd hb1) hb2)
  have hA2 : H b2 = none := none_of_le (Le.upd hb1) hb2
  have hu1 := ne_none_of_rd r1'
  have hu2 := ne_none_of_rd r2'
  generalize wr (upd (upd H b1 [.bool false]) b2 [.int .i64 0]) b2 0 (.int .i64 0) = H3 at *
  refine strings_Lines.c fun b hb => ?_
  have n1 : b1 ≠ b := ne_of_none hu1 hb
  have n2 : b2 ≠ b := ne_of_none hu2 hb
  have hAb : H b = none := none_of_le le3 hb
  refine strings_Lines_1.c (fun done H' => rd H' b2 0 = some (.int .i64 (done.length : Nat)) ∧ rd H' b1 0 = some (.bool false) ∧ fitsL done = true ∧ Le H H') (by rw [rd_upd_self]; rfl) (by omega) ⟨by rw [rd_upd_ne n2]; exact r2', by rw [rd_upd_ne n1]; exact r1', rfl, le3.trans (Le.upd hb)⟩ ?_ ?_ ?_
  · rintro done H' v ⟨h1, h2, h3, h4⟩
    exact ⟨by rw [rd_wr_ne n2]; exact h1, by rw [rd_wr_ne n1]; exact h2, h3, h4.wr hAb⟩
  · rintro done line rest H' Kb ⟨h1, h2, h3, h4⟩ h5 he hon hoff
    have hfd := of_decide_eq_true h3
    refine ldI_i h1 (chk (by omega) (st h1 ?_))
    have h1' := rd_wr_self (v := .int .i64 ((done.length : Nat) + 1)) h1
    have h2' : rd (wr H' b2 0 (.int .i64 ((done.length : Nat) + 1))) b1 0 = some (.bool false) := by rw [rd_wr_ne (Ne.symm n21)]; exact h2
    have h4' : Le H (wr H' b2 0 (.int .i64 ((done.length : Nat) + 1))) := h4.wr hA2
    have h5' : rd (wr H' b2 0 (.int .i64 ((done.length : Nat) + 1))) b 0 = some (.string (mkB rest)) := by rw [rd_wr_ne (Ne.symm n2)]; exact h5
    generalize wr H' b2 0 (.int .i64 ((done.length : Nat) + 1)) = H4 at *
    have bad : (¬ done.length + 1 ≤ 40 ∨ ¬ line.length ≤ 60) → fitsL (lines (L s)) = false := fun h => by
      rw [← he]
      refine decide_eq_false fun hf => ?_
      rcases h with h | h
      · have := hf.1; simp at this; omega
      · exact h (hf.2 line (by simp))
    have out : fitsL (lines (L s)) = false → ST H4 b1 0 (.bool false) fun Hx => Kb (.off 0 .on) Hx := fun hf => by
      refine st h2' (hoff _ _ _ ?_)
      refine ldB_i (rd_wr_self h2') ?_
      rw [← hf]
      exact hK _ (h4'.wr hb1)
    refine ldI_i h1' (bcd (fun h => out (bad (.inl (by omega)))) fun h => ?_)
    rw [sv_size]
    refine bcd (fun h' => out (bad (.inr (by omega)))) fun h' => hon _ ⟨by rw [h1']; simp, h2', ?_, h4'⟩ h5'
    refine decide_eq_true ⟨by simp; omega, fun x hx => ?_⟩
    rcases List.mem_append.1 hx with hx | hx
    · exact hfd.2 x hx
    · simp at hx; subst hx; omega
  · rintro H' ⟨h1, h2, h3, h4⟩
    refine alOn (st h2 (ldB_i (rd_wr_self h2) ?_))
    rw [← h3]
    exact hK _ (h4.wr hb1)

/-! ### The document's lines -/
theorem getD_L {s : ByteArray} {k : Nat} (h : k < s.size) : s.data.toList.getD k 0 = (L s)[k]'(by rw [← L_size]; exact h) := by
  have : k < (L s).length := by rw [← L_size]; exact h
  show (L s).getD k 0 = _
  simp [List.getD, this]
theorem u8_eq {a b : UInt8} : ((a.toNat : Nat) : Int) = ((b.toNat : Nat) : Int) ↔ a = b := by
  constructor
  · intro h
    exact UInt8.toNat_inj.1 (by omega)
  · rintro rfl; rfl
theorem centoref10_Lines.c {s : ByteArray} {H : Hp} {K : Option Addr → Nat → Nat → Hp → Prop} (hs : s.size ≤ 1000000000) (hK : ∀ p l c' H', Sl sv H' p l c' (lines (L s)) → Le H H' → PtOk p → New H p → K p l c' H') : centoref10_Lines.C s H K := by
  apply centoref10_Lines.of
  have hsz := L_size s
  refine ⟨fun p l c' f i H' => 0 ≤ f ∧ f ≤ i ∧ i ≤ s.size ∧ ∃ done, Buf 1 H H' p l c' (done.map sv) ∧ Le H H' ∧ done ++ linesA (((L s).take i.toNat).drop f.toNat) ((L s).drop i.toNat) = lines (L s), fun _ _ _ _ i _ => ((s.size : Int) - i).toNat, ⟨by omega, by omega, by omega, [], Buf.none, Le.refl _, by simp [lines]⟩, ?_⟩
  rintro p l c' f i H1 ⟨g0, g1, g2, done, hB, hle, he⟩
  have hll := lines_len (L s)
  have hl : l = done.length := by have := hB.1; simp at this; omega
  have hd1 : done.length ≤ (lines (L s)).length := by rw [← he]; simp
  refine bcd (fun h => ?_) (fun h => ?_)
  · refine idxN i.toNat (by omega) (by omega) ?_
    rw [getD_L (by omega)]
    have hi : i.toNat < (L s).length := by omega
    have hdrop : (L s).drop i.toNat = (L s)[i.toNat] :: (L s).drop (i.toNat + 1) := List.drop_eq_getElem_cons hi
    have htake : ((L s).take (i.toNat + 1)).drop f.toNat = ((L s).take i.toNat).drop f.toNat ++ [(L s)[i.toNat]] := by
      rw [List.take_add_one, List.getElem?_eq_getElem hi, List.drop_append_of_le_length (by simp; omega)]; rfl
    rw [hdrop, linesA] at he
    refine bcd (fun h1 => ?_) (fun h1 => ?_)
    · have h10 : (L s)[i.toNat] = 10 := u8_eq.1 h1
      rw [if_pos h10, ← htake] at he
      refine chk (by omega) (bnd11 f.toNat (i.toNat + 1) (by omega) (by omega) (by omega) (by omega) ?_)
      have e1 : s.extract f.toNat (i.toNat + 1) = mkB (((L s).take (i.toNat + 1)).drop f.toNat) := L_inj (by rw [L_extract, L_mk])
      rw [e1]
      have hd2 : done.length + 1 ≤ (lines (L s)).length := by rw [← he]; simp
      refine hB.app1 hle rfl (by decide) rfl (by decide) rfl rfl (by show (l + 1) * 16 ≤ _; omega) fun p' c'' H' hB' hle' _ => ?_
      refine chk (by omega) (chk (by omega) ⟨⟨by omega, by omega, by omega, done ++ [((L s).take (i.toNat + 1)).drop f.toNat], ?_, hle', ?_⟩, by dsimp only; omega⟩)
      · rw [List.map_append]; exact hB'
      · rw [show (i + 1).toNat = i.toNat + 1 by omega, show ((L s).take (i.toNat + 1)).drop (i.toNat + 1) = [] from List.drop_of_length_le (by simp; omega), List.append_assoc]
        exact he
    · have h10 : (L s)[i.toNat] ≠ 10 := fun e => h1 (u8_eq.2 e)
      rw [if_neg h10, ← htake] at he
      refine chk (by omega) ⟨⟨by omega, by omega, by omega, done, hB, hle, ?_⟩, by dsimp only; omega⟩
      rw [show (i + 1).toNat = i.toNat + 1 by omega]
      exact he
  · have hi : i.toNat = (L s).length := by omega
    rw [hi, List.take_length, List.drop_length, linesA] at he
    refine bcd (fun h1 => ?_) (fun h1 => ?_)
    · refine bnd10 f.toNat (by omega) (by omega) ?_
      have e1 : s.extract f.toNat s.size = mkB ((L s).drop f.toNat) := L_inj (by rw [L_extract, L_mk, hsz, List.take_length])
      rw [if_neg (by rw [List.drop_eq_nil_iff]; omega)] at he
      rw [e1]
      have hd2 : done.length + 1 ≤ (lines (L s)).length := by rw [← he]; simp
      refine hB.app1 hle rfl (by decide) rfl (by decide) rfl rfl (by show (l + 1) * 16 ≤ _; omega) fun p' c'' H' hB' hle' _ => ?_
      have hB'' : Buf 1 H H' p' (l + 1) c'' ((done ++ [(L s).drop f.toNat]).map sv) := by rw [List.map_append]; exact hB'
      rw [he] at hB''
      exact hK p' (l + 1) c'' H' hB''.sl hle' hB''.pt hB''.fr
    · rw [if_pos (by rw [List.drop_eq_nil_iff]; omega), List.append_nil] at he
      rw [he] at hB
      exact hK p l c' H1 hB.sl hle hB.pt hB.fr
theorem centoref10_Fits.c {s : ByteArray} {H : Hp} {K : Bool → Hp → Prop} (hs : s.size ≤ 1000000000) (hK : ∀ H', Le H H' → K (fitsL (lines (L s))) H') : centoref10_Fits.C s H K := by
  apply centoref10_Fits.of
  refine centoref10_Lines.c hs fun p l c' H1 hx hle _ _ => ?_
  have e1 := hx.len
  refine ⟨fun i H' => H' = H1 ∧ 0 ≤ i ∧ i ≤ l ∧ ∀ x ∈ (lines (L s)).take i.toNat, x.length ≤ 60, fun i _ => ((l : Int) - i).toNat, ⟨rfl, by omega, by omega, by simp⟩, ?_⟩
  rintro i H2 ⟨rfl, g0, g1, g2⟩
  refine bcd (fun h => ?_) (fun h => ?_)
  · refine slT hx g0 h fun hi => ?_
    rw [sv_size]
    refine bcd (fun h1 => ?_) (fun h1 => chk (by have := lines_len (L s); rw [← L_size] at this; omega) ⟨⟨rfl, by omega, by omega, fun x hx => ?_⟩, by dsimp only; omega⟩)
    · have : fitsL (lines (L s)) = false := decide_eq_false fun hf => by have := hf.2 _ (List.getElem_mem hi); omega
      rw [← this]; exact hK H2 hle
    · rw [show (i + 1).toNat = i.toNat + 1 by omega, List.take_add_one, List.getElem?_eq_getElem hi] at hx
      rcases List.mem_append.1 hx with hx | hx
      · exact g2 x hx
      · simp at hx; subst hx; omega
  · rw [List.take_of_length_le (by omega)] at g2
    have : decide ((l : Int) ≤ 40) = fitsL (lines (L s)) := decide_eq_decide.2 ⟨fun h => ⟨by omega, g2⟩, fun h => by have := h.1; omega⟩
    rw [this]; exact hK H2 hle

/-! ### What the statements use -/
theorem centolaw10_same.c {p q : Option Addr} {l c1 m c2 : Nat} {xs ys : List BL} {H : Hp} {K : Bool → Hp → Prop} (hx : Sl sv H p l c1 xs) (hy : Sl sv H q m c2 ys) (hl : xs.length ≤ 1000000000) (hK : K (decide (xs = ys)) H) : centolaw10_same.C p l c1 q m c2 H K := by
  apply centolaw10_same.of
  have e1 := hx.len
  have e2 := hy.len
  refine bcd (fun h => ?_) (fun h => ?_)
  · rw [decide_eq_false (fun e => by subst e; omega)] at hK
    exact hK
  · refine ⟨fun i H' => H' = H ∧ 0 ≤ i ∧ i ≤ l ∧ xs.take i.toNat = ys.take i.toNat, fun i _ => ((l : Int) - i).toNat, ⟨rfl, by omega, by omega, by simp⟩, ?_⟩
    rintro i H1 ⟨rfl, g0, g1, g2⟩
    refine bcd (fun h => ?_) (fun h => ?_)
    · refine slT hx g0 h fun hi => slT hy g0 (by omega) fun hi' => ?_
      refine bcd (fun h1 => ?_) (fun h1 => chk (by omega) ⟨⟨rfl, by omega, by omega, ?_⟩, by dsimp only; omega⟩)
      · rw [decide_eq_false (fun e => by subst e; exact h1 rfl)] at hK
        exact hK
      · have h2 : xs[i.toNat] = ys[i.toNat] := by
          by_cases e : xs[i.toNat] = ys[i.toNat]
          · exact e
          · exact absurd (fun h => e (by rw [eq_iff_L] at h; exact h)) (fun h => h1 h)
        rw [show (i + 1).toNat = i.toNat + 1 by omega, List.take_add_one, List.take_add_one, g2, List.getElem?_eq_getElem hi, List.getElem?_eq_getElem hi', h2]
    · rw [List.take_of_length_le (by omega), List.take_of_length_le (by omega)] at g2
      rw [decide_eq_true g2] at hK
      exact hK
end Go.Proofs.Ytjfohhgmapipnaa
