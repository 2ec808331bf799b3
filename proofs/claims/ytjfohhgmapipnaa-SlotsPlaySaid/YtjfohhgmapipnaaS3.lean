/- Contracts. -/
import Derived.Test.YtjfohhgmapipnaaS2
import Derived.Test.YtjfohhgmapipnaaVcRows
namespace Go.Proofs.Ytjfohhgmapipnaa
open Go.V
/-! ### Lines -/
theorem linesA_len (acc l : BL) : (linesA acc l).length ≤ l.length + (if acc = [] then 0 else 1) := by
  induction l generalizing acc with
  | nil => unfold linesA; split <;> simp
  | cons b l ih =>
    unfold linesA
    split
    · have := ih []
      simp at this ⊢
      omega
    · have := ih (acc ++ [b])
      simp at this ⊢
      omega
theorem lines_len (l : BL) : (lines l).length ≤ l.length := by have := linesA_len [] l; simpa [lines] using this
def sv (l : BL) : Value := .string (mkB l)

theorem strings_Lines.c {s : ByteArray} {H : Hp} {K : Value → Hp → Prop} (hK : ∀ b, H b = none → K (.func (.func strings_Lines_1.num) ⟨[]⟩ ⟨[.pointer (some ⟨b, 0, none⟩)]⟩) (upd H b [.string s])) : strings_Lines.C s H K := by
  apply strings_Lines.of
  exact fun b hb => hK b hb
theorem sl_map {α β : Type} {f : α → Value} {g : β → α} {H : Hp} {p : Option Addr} {l c' : Nat} {xs : List β} : Sl f H p l c' (xs.map g) ↔ Sl (fun x => f (g x)) H p l c' xs := by
  unfold Sl
  simp
theorem split_Lines.c {s : ByteArray} {H : Hp} {K : Option Addr → Nat → Nat → Hp → Prop} (hs : s.size ≤ 1000000000) (hK : ∀ p l c' H', Sl sv H' p l c' (lines (L s)) → Le H H' → PtOk p → New H p → K p l c' H') : split_Lines.C s H K := by
  apply split_Lines.of
  refine strings_Lines.c fun b hb => ?_
  apply slices_Collect_string.of
  apply slices_AppendSeq_string_string.of
  intro b5 hb5
  have hne : b5 ≠ b := fun e => by subst e; simp [upd] at hb5
  generalize hH2 : upd (upd H b [.string s]) b5 [.slice none 0 0] = H2
  have r0 : rd H2 b 0 = some (.string s) := by rw [← hH2, rd_upd_ne (Ne.symm hne), rd_upd_self]; rfl
  have r5 : rd H2 b5 0 = some (.slice none 0 0) := by rw [← hH2, rd_upd_self]; rfl
  have le2 : Le H H2 := by rw [← hH2]; exact (Le.upd hb).trans (Le.upd hb5)
  have hA5 : H b5 = none := none_of_le (Le.upd hb) hb5
  refine strings_Lines_1.c (fun done H' => ∃ p l c', rd H' b5 0 = some (.slice p l c') ∧ Buf 1 H2 H' p l c' (done.map sv) ∧ Was H2 H' ∧ Le H H') r0 (by omega) ⟨none, 0, 0, r5, Buf.none, fun _ h => h, le2⟩ ?_ ?_ ?_
  · rintro done H' v ⟨p, l, c', h1, h2, h3, h4⟩
    refine ⟨p, l, c', ?_, h2.mod (O := [b]) (Mod.refl.wr (.inl (by simp))) fun x o e hx => ?_, fun x hx => ?_, h4.wr hb⟩
    · rw [rd_wr_ne hne]; exact h1
    · simp at hx; subst hx
      exact ne_none_of_rd r0 (h2.fr _ _ e)
    · apply h3
      unfold wr at hx
      split at hx
      · simp at hx; subst_vars; exact hx
      · exact hx
  · rintro done line rest H' Kb ⟨p, l, c', h1, h2, h3, h4⟩ h5 he hon hoff
    refine ldL_i h1 ?_
    have hl : l = done.length := by have := h2.1; simp at this; omega
    have hlen := lines_len (L s)
    rw [← he, ← L_size] at hlen
    simp at hlen
    refine h2.pushS rfl (by decide) rfl (by decide) rfl rfl (by show (l + 1) * 16 ≤ _; omega) (fun p' c'' H'' hB hp hm => ?_) h3
    have hb5p : b5 ∉ blkL p := fun hx => ne_none_of_rd r5 (h2.fr _ _ (blkL_mem h2.zero hx))
    have hbp : b ∉ blkL p := fun hx => ne_none_of_rd r0 (h2.fr _ _ (blkL_mem h2.zero hx))
    have hw : Was H2 H'' := fun x hx => by
      cases hh : H' x with
      | none => exact h3 x hh
      | some d =>
        by_cases hxp : x ∈ blkL p
        · exact h2.fr _ _ (blkL_mem h2.zero hxp)
        · rw [hm x hxp d hh] at hx; cases hx
    refine st (hm.rd hb5p h1) (hon _ ⟨p', l + 1, c'', rd_wr_self (hm.rd hb5p h1), ?_, fun x hx => ?_, (hm.le h4 fun x hx => none_of_le le2 (h2.fr _ _ (blkL_mem h2.zero hx))).wr hA5⟩ ?_)
    · rw [List.map_append]
      refine hB.mod (O := [b5]) (Mod.refl.wr (.inl (by simp))) fun x o e hx => ?_
      simp at hx; subst hx
      exact ne_none_of_rd r5 (hB.fr _ _ e)
    · apply hw
      unfold wr at hx
      split at hx
      · simp at hx; subst_vars; exact hx
      · exact hx
    · rw [rd_wr_ne (Ne.symm hne)]
      exact hm.rd hbp h5
  · rintro H' ⟨p, l, c', h1, h2, h3, h4⟩
    refine alOn (ldL_i h1 (hK p l c' H' h2.sl h4 h2.pt (h2.fr.le le2)))
end Go.Proofs.Ytjfohhgmapipnaa
