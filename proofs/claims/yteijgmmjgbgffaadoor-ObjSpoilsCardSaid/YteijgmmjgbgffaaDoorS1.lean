/- Contracts. -/
import Derived.Test.YteijgmmjgbgffaaDoorG1
import Derived.Test.YteijgmmjgbgffaaDoorVcBuf
namespace Go.Proofs.YteijgmmjgbgffaaDoor
open Go.V
/-! ### strings.Builder -/
/-- Block b is a builder that holds l, in buffer p (room c, k bytes frozen); none of it was there in A. -/
structure Bd (A H : Hp) (b : Nat) (p : Option Addr) (cc k : Nat) (l : List UInt8) : Prop where
  fr : A b = none
  ap : b ∉ blkL p
  hd : ∃ pa : Option Addr, (pa = none ∨ pa = some ⟨b, 0, none⟩) ∧ H b = some ([.pointer pa, .slice p l.length cc] ++ [tyM ty_strings_Builder 0 0])
  bb : BB ty_uint8 A H p cc k l
section
variable {A A' H H' : Hp} {b : Nat} {p : Option Addr} {cc k : Nat} {l : List UInt8} {O : List Nat}
theorem Bd.new {A H : Hp} {b : Nat} (hA : A b = none) (hH : H b = some ([.pointer none, .slice none 0 0] ++ [tyM ty_strings_Builder 0 0])) : Bd A H b none 0 0 [] :=
  ⟨hA, by simp [blkL], ⟨none, .inl rfl, hH⟩, BB.none⟩
theorem Bd.there (h : Bd A H b p cc k l) : ∀ x ∈ b :: blkL p, H x ≠ none := by
  intro x hx
  rcases List.mem_cons.1 hx with rfl | hx
  · obtain ⟨pa, _, h1⟩ := h.hd; rw [h1]; intro e; cases e
  · exact h.bb.there x hx
theorem Bd.frs (h : Bd A H b p cc k l) : ∀ x ∈ b :: blkL p, A x = none := by
  intro x hx
  rcases List.mem_cons.1 hx with rfl | hx
  · exact h.fr
  · exact h.bb.fr x hx
theorem Bd.mod (h : Bd A H b p cc k l) (hm : Mod O H H') (hO : ∀ x ∈ b :: blkL p, x ∉ O) : Bd A H' b p cc k l := by
  obtain ⟨pa, h1, h2⟩ := h.hd
  exact ⟨h.fr, h.ap, ⟨pa, h1, hm b (hO b (by simp)) _ h2⟩, h.bb.mod hm fun x hx => hO x (by simp [hx])⟩
theorem Bd.le (h : Bd A H b p cc k l) (hm : Le H H') : Bd A H' b p cc k l := h.mod (O := []) hm.mod (by simp)
theorem Bd.base (h : Bd A H b p cc k l) (hA : ∀ x ∈ b :: blkL p, A' x = none) : Bd A' H b p cc k l :=
  ⟨hA b (by simp), h.ap, h.hd, h.bb.base fun x hx => hA x (by simp [hx])⟩
theorem Bd.r1 (h : Bd A H b p cc k l) : rd H b 1 = some (.slice p l.length cc) := by
  obtain ⟨pa, _, h2⟩ := h.hd
  unfold rd; rw [h2]; rfl
end

theorem internal_abi_NoEscape.c {x : Option Addr} {H : Hp} {K : Option Addr → Hp → Prop} (hK : K x H) : internal_abi_NoEscape.C x H K :=
  callX (fn := (prog.funcs[internal_abi_NoEscape.num]?).getD default) (e := Extern.AbiNoEscape.same) (by kernel_rfl) (by kernel_rfl) (by kernel_rfl) (by kernel_rfl) (by kernel_rfl) fun w hw => ⟨.pointer x, w, rfl, by subst hw; exact hK, Ge.refl _ _⟩

section
variable {A H : Hp} {b : Nat} {p : Option Addr} {cc k : Nat} {l : List UInt8}
theorem strings_Builder_copyCheck.c {K : Hp → Prop} (hB : Bd A H b p cc k l) (hK : ∀ H', Bd A H' b p cc k l → Mod [b] H H' → K H') : strings_Builder_copyCheck.C (some ⟨b, 0, none⟩) H K := by
  apply strings_Builder_copyCheck.of
  obtain ⟨pa, hpa, hH⟩ := hB.hd
  have r0 : rd H b 0 = some (.pointer pa) := by unfold rd; rw [hH]; rfl
  refine nil (ldP_i r0 ?_)
  rcases hpa with rfl | rfl
  · refine bcd (fun _ => ?_) (fun h => absurd rfl h)
    refine cnv_to (t := ty_strings_Builder) (s := 1) (by kernel_rfl) (by kernel_rfl) (by kernel_rfl) r0 ?_
    refine internal_abi_NoEscape.c ?_
    refine cnv_from (u := ty_strings_Builder) (s := 2) (X := [.pointer none, .slice p l.length cc]) (by kernel_rfl) (by kernel_rfl) (by kernel_rfl) hH (show liesAt prog prog.depth ty_strings_Builder (2 / prog.cellsOf ty_strings_Builder) 0 ty_strings_Builder 1 = true by kernel_rfl) ?_
    refine nil (st r0 (hK _ ⟨hB.fr, hB.ap, ⟨some ⟨b, 0, none⟩, .inr rfl, ?_⟩, hB.bb.mod (O := [b]) (Mod.refl.wr (.inl (by simp))) fun x hx hx' => ?_⟩ (Mod.refl.wr (.inl (by simp)))))
    · unfold wr; rw [if_pos rfl, hH]; rfl
    · simp at hx'; subst hx'; exact hB.ap hx
  · refine bcd (fun h => by cases h) (fun _ => ?_)
    refine nil (ldP_i r0 ?_)
    refine peq_ne (te := ty_strings_Builder) (s := 2) (by kernel_rfl) (by kernel_rfl) ?_
    exact bcF (hK H hB Mod.refl)

/-- The buffer's head is laid anew. -/
theorem Bd.put {p' : Option Addr} {c' k' : Nat} {l' : List UInt8} {H1 : Hp} (hB : Bd A H b p cc k l) (hb : H1 b = H b) (hBB : BB ty_uint8 A H1 p' c' k' l') (hap : b ∉ blkL p') : Bd A (wr H1 b 1 (.slice p' l'.length c')) b p' c' k' l' := by
  obtain ⟨pa, h1, h2⟩ := hB.hd
  refine ⟨hB.fr, hap, ⟨pa, h1, ?_⟩, hBB.mod (O := [b]) (Mod.refl.wr (.inl (by simp))) fun x hx hx' => ?_⟩
  · unfold wr; rw [if_pos rfl, hb, h2]; rfl
  · simp at hx'; subst hx'; exact hap hx
theorem strings_Builder_WriteString.c {s : ByteArray} {K : Int → Value → Hp → Prop} (hB : Bd A H b p cc k l) (hA : Le A H) (hk : k = 0 ∨ l.length + s.size ≤ cc) (hfit : l.length + s.size ≤ 140737488355328)
    (hK : ∀ p' c' k' H', Bd A H' b p' c' k' (l ++ s.data.toList) → Le A H' → Mod (b :: blkL p) H H' → (p' = p ∨ New H p') → (k' = k ∧ p' = p ∧ c' = cc ∨ k' = 0 ∧ cc < l.length + s.size) → K (s.size : Nat) .nilIface H') : strings_Builder_WriteString.C (some ⟨b, 0, none⟩) s H K := by
  have hsz : s.data.toList.length = s.size := by cases s; rfl
  apply strings_Builder_WriteString.of
  refine strings_Builder_copyCheck.c hB fun H1 hB1 m1 => ?_
  have hA1 : Le A H1 := m1.le hA (by simpa using hB.fr)
  refine nil (ldL_i hB1.r1 ?_)
  refine hB1.bb.app (new := s.data.toList) hA1 rfl rfl rfl rfl (src_str s) (by rw [hsz]; exact hk) (by rw [hsz]; exact hfit) fun p' c' k' H2 hBB hA2 m2 hp hch => ?_
  have hbq : b ∉ blkL p := hB.ap
  have hb2 : H2 b = H1 b := by
    obtain ⟨pa, _, h2⟩ := hB1.hd
    rw [h2]; exact m2 b hbq _ h2
  have hap : b ∉ blkL p' := by
    rcases hp with rfl | hp
    · exact hbq
    · rcases hBB.2.2 with ⟨rfl, _⟩ | ⟨q, _, rfl, _⟩
      · simp [blkL]
      · intro h
        simp [blkL] at h
        exact hB1.there b (by simp) (by have := hp q 0 rfl; rw [← h] at this; exact this)
  have hB2 := hB1.put hb2 hBB hap
  have r : rd H2 b 1 = some (.slice p l.length cc) := by rw [rd_eq hb2]; exact hB1.r1
  refine nil (st r ?_)
  rw [show l.length + s.data.toList.length = (l ++ s.data.toList).length by simp]
  refine hK p' c' k' _ hB2 (hA2.wr hB.fr) ((m1.mono (by simp)).trans ((m2.mono (by simp; intro x hx; exact .inr hx)).wr (.inl (by simp)))) ?_ (by rw [hsz] at hch; exact hch)
  rcases hp with hp | hp
  · exact .inl hp
  · refine .inr fun b' o e => ?_
    have := hp b' o e
    cases hh : H b' with
    | none => rfl
    | some d =>
      by_cases hbb : b' = b
      · subst hbb; exact absurd this (hB1.there b' (by simp))
      · rw [m1 b' (by simpa using hbb) _ hh] at this; cases this
theorem strings_Builder_WriteByte.c {x : UInt8} {K : Value → Hp → Prop} (hB : Bd A H b p cc 0 l) (hA : Le A H) (hfit : l.length + 1 ≤ 140737488355328)
    (hK : ∀ p' c' H', Bd A H' b p' c' 0 (l ++ [x]) → Le A H' → Mod (b :: blkL p) H H' → (p' = p ∨ New H p') → K .nilIface H') : strings_Builder_WriteByte.C (some ⟨b, 0, none⟩) (x.toNat : Nat) H K := by
  apply strings_Builder_WriteByte.of
  refine strings_Builder_copyCheck.c hB fun H1 hB1 m1 => ?_
  have hA1 : Le A H1 := m1.le hA (by simpa using hB.fr)
  refine nil (ldL_i hB1.r1 ?_)
  intro bx hbx
  have hB1' := hB1.le (Le.upd (c := [.int .u8 (x.toNat : Nat)] ++ [tyM ty_uint8 0 0]) hbx)
  refine hB1'.bb.app (new := [x]) (hA1.trans (Le.upd hbx)) rfl rfl rfl rfl (src_one) (.inl rfl) hfit fun p' c' k' H2 hBB hA2 m2 hp hch => ?_
  have hk' : k' = 0 := by rcases hch with ⟨h, _⟩ | ⟨h, _⟩ <;> exact h
  subst hk'
  have hbq : b ∉ blkL p := hB.ap
  have hb2 : H2 b = (upd H1 bx ([.int .u8 (x.toNat : Nat)] ++ [tyM ty_uint8 0 0])) b := by
    obtain ⟨pa, _, h2⟩ := hB1'.hd
    rw [h2]; exact m2 b hbq _ h2
  have hap : b ∉ blkL p' := by
    rcases hp with rfl | hp
    · exact hbq
    · rcases hBB.2.2 with ⟨rfl, _⟩ | ⟨q, _, rfl, _⟩
      · simp [blkL]
      · intro h
        simp [blkL] at h
        exact hB1'.there b (by simp) (by have := hp q 0 rfl; rw [← h] at this; exact this)
  have hB2 := hB1'.put hb2 hBB hap
  have r : rd H2 b 1 = some (.slice p l.length cc) := by rw [rd_eq hb2]; exact hB1'.r1
  refine nil (st r ?_)
  rw [show l.length + [x].length = (l ++ [x]).length by simp]
  refine hK p' c' _ hB2 (hA2.wr hB.fr) (((m1.mono (by simp)).trans (Le.upd hbx).mod).trans ((m2.mono (by simp; intro x hx; exact .inr hx)).wr (.inl (by simp)))) ?_
  rcases hp with hp | hp
  · exact .inl hp
  · refine .inr fun b' o e => ?_
    have := none_of_le (Le.upd hbx) (hp b' o e)
    cases hh : H b' with
    | none => rfl
    | some d =>
      by_cases hbb : b' = b
      · subst hbb; exact absurd this (hB1.there b' (by simp))
      · rw [m1 b' (by simpa using hbb) _ hh] at this; cases this

theorem strings_Builder_String.c {K : ByteArray → Hp → Prop} (hB : Bd A H b p cc k l) (hA : Le A H) (hlen : l.length ≤ 9223372036854775807)
    (hK : ∀ H', Bd A H' b p cc l.length l → Le A H' → Mod (blkL p) H H' → K ⟨⟨l⟩⟩ H') : strings_Builder_String.C (some ⟨b, 0, none⟩) H K := by
  apply strings_Builder_String.of
  refine nil (ldL_i hB.r1 (nil (ldL_i hB.r1 ?_)))
  refine blt_data (fun a ha => ?_) ?_
  · rcases hB.bb.2.2 with ⟨h, _⟩ | ⟨q, r, _, _, h, _⟩
    · rw [h] at ha; cases ha
    · omega
  refine ⟨by rw [hB.r1], ?_⟩
  refine blt_str (e := ty_uint8) (by kernel_rfl) (by kernel_rfl) (by kernel_rfl) hB.bb hlen fun H' hBB hm => ?_
  obtain ⟨pa, h1, h2⟩ := hB.hd
  exact hK H' ⟨hB.fr, hB.ap, ⟨pa, h1, hm b hB.ap _ h2⟩, hBB⟩ (hm.le hA hB.bb.fr) hm
end

section
variable {A H : Hp} {b : Nat}
end
end Go.Proofs.YteijgmmjgbgffaaDoor
