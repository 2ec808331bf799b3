/- Contracts. -/
import Derived.Test.YtjfohhgmapipnaaS5
namespace Go.Proofs.Ytjfohhgmapipnaa
open Go.V
/-! ### Package centolaw10 -/
theorem sl_txt {H : Hp} {p : Option Addr} {l c' : Nat} {xs : List ByteArray} (h : Sl Value.string H p l c' xs) : Sl sv H p l c' (xs.map L) := by
  have : Sl Value.string H p l c' ((xs.map L).map mkB) := by
    rw [List.map_map, show (mkB ∘ L) = id from funext fun x => mk_L x, List.map_id]; exact h
  exact (sl_map (f := Value.string) (g := mkB)).1 this
theorem getD_mk {l : BL} {k : Nat} (h : k < l.length) : (mkB l).data.toList.getD k 0 = l[k] := by
  show l.getD k 0 = _
  simp [List.getD, h]
theorem bs_eq {l : BL} {x : ByteArray} : x = bs l ↔ L x = l := by rw [eq_iff_L, L_bs]
theorem centolaw10_known.c {H : Hp} {K : Bool → Hp → Prop} (hK : ∀ H', Le H H' → K true H') : centolaw10_known.C H K := by
  apply centolaw10_known.of
  have e1 : lines (L (bs [97, 10, 98])) = [[97, 10], [98]] := by decide
  refine split_Lines.c (by decide) fun p l c' H1 hx le1 _ _ => ?_
  rw [e1] at hx
  have hl := hx.len
  refine bcd (fun _ => ?_) (fun h => absurd (by rw [hl]; rfl) h)
  refine slT hx (by decide) (by rw [hl]; decide) fun _ => bcd (fun _ => ?_) (fun h => absurd rfl h)
  refine slT hx (by decide) (by rw [hl]; decide) fun _ => bcd (fun _ => ?_) (fun h => absurd rfl h)
  refine split_Join.c hx (by decide) (by decide) fun H2 le2 => ?_
  refine bcd (fun _ => ?_) (fun h => absurd rfl h)
  have hx2 := hx.le le2
  refine split_Is.c hx2 (by decide) (by decide) ?_
  rw [show isL [[97, 10], [98]] = true by decide]
  refine bcT fun b hb => ?_
  have hx3 : Sl sv (upd H2 b [.string (bs [98]), .string (bs [97, 10])]) (some ⟨b, 0, none⟩) 2 2 [[98], [97, 10]] := by
    refine ⟨rfl, by decide, .inr ⟨b, 0, rfl, fun i hi => ?_⟩⟩
    rw [rd_upd_self]
    match i, hi with
    | 0, _ => rfl
    | 1, _ => rfl
  refine split_Is.c hx3 (by decide) (by decide) ?_
  rw [show isL [[98], [97, 10]] = false by decide]
  refine bcn (fun _ => ?_) (fun h => by cases h)
  refine split_Fits.c (by decide) fun H3 le3 => ?_
  rw [show fitsL (lines (L (bs [97]))) = true by decide]
  refine bcT ?_
  refine split_Lines.c (by decide) fun p4 l4 c4 H4 hx4 le4 _ _ => ?_
  have hl4 := hx4.len
  rw [show lines (L (bs [])) = [] by decide] at hl4
  rw [decide_eq_true (by rw [hl4]; rfl)]
  exact hK H4 ((((le1.trans le2).trans (Le.upd hb)).trans le3).trans le4)

theorem centolaw10_is.c {p : Option Addr} {l c' : Nat} {xs : List BL} {H : Hp} {K : Bool → Hp → Prop} (hx : Sl sv H p l c' xs) (hl : xs.length ≤ 1000000000) (hlen : ∀ x ∈ xs, x.length ≤ 1000000000) (hK : K (isL xs) H) : centolaw10_is.C p l c' H K := by
  apply centolaw10_is.of
  have e1 := hx.len
  refine ⟨fun i H' => H' = H ∧ 0 ≤ i ∧ i ≤ l ∧ isL (xs.drop i.toNat) = isL xs, fun i _ => ((l : Int) - i).toNat, ⟨rfl, by omega, by omega, by simp⟩, ?_⟩
  rintro i H1 ⟨rfl, g0, g1, g2⟩
  refine bcd (fun h => ?_) (fun h => ?_)
  · refine slT hx g0 h fun hi => ?_
    have hxl := hlen _ (List.getElem_mem hi)
    rw [isL_drop hi, okL_eq] at g2
    rw [sv_size]
    have no : ¬ (xs[i.toNat] ≠ [] ∧ 10 ∉ xs[i.toNat].dropLast ∧ (decide (i.toNat + 1 = xs.length) = true ∨ xs[i.toNat].getLast? = some 10)) → K false H1 := fun h => by
      rw [decide_eq_false h] at g2; rw [← g2] at hK; exact hK
    refine bcd (fun h1 => no fun h2 => h2.1 (List.length_eq_zero_iff.1 (by omega))) fun h1 => ?_
    refine ⟨fun k H' => H' = H1 ∧ 0 ≤ k ∧ k ≤ xs[i.toNat].length ∧ ∀ j, j < k.toNat → j + 1 < xs[i.toNat].length → xs[i.toNat][j]? ≠ some 10, fun k _ => ((xs[i.toNat].length : Int) - k).toNat, ⟨rfl, by omega, by omega, by simp⟩, ?_⟩
    rintro k H2 ⟨rfl, f0, f1, f2⟩
    refine slT hx g0 h fun _ => ?_
    rw [sv_size]
    refine bcd (fun h2 => ?_) (fun h2 => ?_)
    · refine slT hx g0 h fun _ => ?_
      refine idxN k.toNat (by omega) (by rw [sv_size]; omega) ?_
      rw [getD_mk (by omega)]
      have nxt : (xs[i.toNat][k.toNat] ≠ 10 ∨ ¬ k.toNat + 1 < xs[i.toNat].length) → ∀ j, j < (k + 1).toNat → j + 1 < xs[i.toNat].length → xs[i.toNat][j]? ≠ some 10 := fun h3 j hj hj' hjj => by
        by_cases hjk : j = k.toNat
        · subst hjk
          rw [List.getElem?_eq_getElem (by omega)] at hjj
          rcases h3 with h3 | h3
          · exact h3 (Option.some.inj hjj)
          · exact h3 hj'
        · exact f2 j (by omega) hj' hjj
      refine bcd (fun h3 => ?_) (fun h3 => ?_)
      · refine slT hx g0 h fun _ => ?_
        rw [sv_size]
        refine chk (by omega) (bcd (fun h4 => no fun h5 => h5.2.1 ?_) (fun h4 => chk (by omega) ⟨⟨rfl, by omega, by omega, nxt (.inr (by omega))⟩, by dsimp only; omega⟩))
        have : xs[i.toNat].dropLast[k.toNat]? = some 10 := by
          rw [List.getElem?_dropLast, if_pos (by omega), List.getElem?_eq_getElem (by omega), (u8_eq (b := 10)).1 h3]
        exact List.mem_of_getElem? this
      · exact chk (by omega) ⟨⟨rfl, by omega, by omega, nxt (.inl fun e => h3 (u8_eq.2 e))⟩, by dsimp only; omega⟩
    · have hx0 : xs[i.toNat] ≠ [] := fun e => h1 (by rw [e]; rfl)
      have hdl : 10 ∉ xs[i.toNat].dropLast := fun hm => by
        obtain ⟨j, hj⟩ := List.mem_iff_getElem?.1 hm
        rw [List.getElem?_dropLast] at hj
        split at hj
        · exact f2 j (by omega) (by omega) hj
        · cases hj
      have yes : (decide (i.toNat + 1 = xs.length) = true ∨ xs[i.toNat].getLast? = some 10) → isL (xs.drop (i + 1).toNat) = isL xs := fun h3 => by
        rw [decide_eq_true ⟨hx0, hdl, h3⟩, Bool.true_and] at g2
        rw [show (i + 1).toNat = i.toNat + 1 by omega]
        exact g2
      refine chk (by omega) (bcd (fun h3 => ?_) (fun h3 => chk (by omega) ⟨⟨rfl, by omega, by omega, yes (.inl (decide_eq_true (by omega)))⟩, by dsimp only; omega⟩))
      refine slT hx g0 h fun _ => slT hx g0 h fun _ => ?_
      rw [sv_size]
      have hpos : 0 < xs[i.toNat].length := List.length_pos_iff.2 hx0
      refine chk (by omega) (idxN (xs[i.toNat].length - 1) (by omega) (by omega) ?_)
      rw [getD_mk (by omega)]
      have hlast : xs[i.toNat].getLast? = some (xs[i.toNat][xs[i.toNat].length - 1]) := by rw [List.getLast?_eq_getElem?]; exact List.getElem?_eq_getElem (by omega)
      refine bcd (fun h4 => no fun h5 => ?_) (fun h4 => chk (by omega) ⟨⟨rfl, by omega, by omega, yes (.inr ?_)⟩, by dsimp only; omega⟩)
      · rcases h5.2.2 with h6 | h6
        · have := of_decide_eq_true h6; omega
        · rw [hlast] at h6
          exact h4 (u8_eq.2 (Option.some.inj h6))
      · rw [hlast]
        by_cases e : xs[i.toNat][xs[i.toNat].length - 1] = 10
        · rw [e]
        · exact absurd (fun h => e ((u8_eq (b := 10)).1 h)) h4
  · rw [List.drop_of_length_le (by omega)] at g2
    rw [← g2] at hK
    exact hK
end Go.Proofs.Ytjfohhgmapipnaa
