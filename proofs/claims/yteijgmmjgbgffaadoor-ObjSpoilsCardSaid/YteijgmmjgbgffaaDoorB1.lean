/- Contracts. -/
import Derived.Test.YteijgmmjgbgffaaDoorG1
import Derived.Test.YteijgmmjgbgffaaDoorVcBits
namespace Go.Proofs.YteijgmmjgbgffaaDoor
open Go.V
/-! ### Rows of bits -/
/-- The table of math/bits. -/
def Tz (H : Hp) : Prop := ∀ i, i < 64 → rd H gTab i = some (.int .u8 ((Lib.deBruijn64tab.getD i 0 : Nat) : Int))
theorem Tz.mod {O : List Nat} {H H' : Hp} (h : Tz H) (hm : Mod O H H') (hg : gTab ∉ O) : Tz H' := fun i hi => hm.rd hg (h i hi)
theorem Tz.le {H H' : Hp} (h : Tz H) (hm : Le H H') : Tz H' := fun i hi => hm.rd (h i hi)
theorem Tz.there {H : Hp} (h : Tz H) : H gTab ≠ none := ne_none_of_rd (h 0 (by decide))

theorem math_bits_TrailingZeros64.c {x : Nat} {H : Hp} {K : Int → Hp → Prop} (hT : Tz H) (h0 : x ≠ 0) (hx : x < 18446744073709551616) (hK : K (Lib.ctz 64 x : Nat) H) : math_bits_TrailingZeros64.C x H K := by
  apply math_bits_TrailingZeros64.of
  refine bcd (fun h => absurd h (by omega)) fun _ => ?_
  have hk := (Lib.lowest_bit 64 x h0 (by omega)).2
  obtain ⟨hi, htab⟩ := Lib.deBruijn64_at _ hk
  have key := tz_key h0 hx
  refine ⟨by decide, ?_⟩
  have hc := hT _ hi
  rw [htab] at hc
  refine idxN _ key hi ?_
  refine ldI_i (by rw [Nat.zero_add]; exact hc) ?_
  exact chk (by omega) hK

/-- Element i of a row of words. -/
def wbit (w : List Nat) (i : Nat) : Bool := (w.getD (i / 64) 0).testBit (i % 64)
/-- Block r is a row of n bits, its words in block q; s tells which are on. -/
structure BR (H : Hp) (r q n : Nat) (s : Nat → Bool) : Prop where
  tz : Tz H
  gq : q ≠ gTab
  rq : r ≠ q
  lim : n ≤ 1000
  row : ∃ (w : List Nat) (c : Nat), (∀ x ∈ w, x < 18446744073709551616) ∧ w.length = (n + 63) / 64 ∧ w.length ≤ c ∧ rd H r 0 = some (.int .i64 (n : Nat)) ∧ rd H r 1 = some (.slice (some ⟨q, 0, none⟩) w.length c) ∧ (∃ cs, H q = some cs) ∧
    (∀ j (h : j < w.length), rd H q j = some (.int .u64 (w[j] : Nat))) ∧ ∀ i, s i = wbit w i
  out : ∀ i, n ≤ i → s i = false

section
variable {H H' : Hp} {r q n : Nat} {s : Nat → Bool} {O : List Nat}
theorem BR.mod (h : BR H r q n s) (hm : Mod O H H') (hr : r ∉ O) (hq : q ∉ O) (hg : gTab ∉ O) : BR H' r q n s := by
  obtain ⟨h1, h2, h3, h4, ⟨w, c, g1, g2, g3, g4, g5, ⟨cs, g6⟩, g7, g8⟩, h6⟩ := h
  exact ⟨h1.mod hm hg, h2, h3, h4, ⟨w, c, g1, g2, g3, hm.rd hr g4, hm.rd hr g5, ⟨cs, hm _ hq _ g6⟩, fun j hj => hm.rd hq (g7 j hj), g8⟩, h6⟩
theorem BR.le (h : BR H r q n s) (hm : Le H H') : BR H' r q n s := h.mod hm.mod (O := []) (by simp) (by simp) (by simp)
theorem BR.hr (h : BR H r q n s) : H r ≠ none := by obtain ⟨w, c, _, _, _, g, _⟩ := h.row; exact ne_none_of_rd g
theorem BR.hq (h : BR H r q n s) : H q ≠ none := by obtain ⟨w, c, _, _, _, _, _, ⟨cs, g⟩, _⟩ := h.row; rw [g]; intro e; cases e
theorem BR.congr {s' : Nat → Bool} (h : BR H r q n s) (e : ∀ i, s' i = s i) : BR H r q n s' := by
  have : s' = s := funext e
  rw [this]; exact h
end

theorem bits_Row_Len.c {r q n : Nat} {s : Nat → Bool} {H : Hp} {K : Int → Hp → Prop} (hu : BR H r q n s) (hK : K (n : Nat) H) : bits_Row_Len.C (some ⟨r, 0, none⟩) H K := by
  apply bits_Row_Len.of
  obtain ⟨w, c, g1, g2, g3, g4, _⟩ := hu.row
  refine bcd (fun h => by cases h) fun _ => ?_
  exact nil (ldI_i g4 hK)
theorem bits_Row_Len.nil {H : Hp} {K : Int → Hp → Prop} (hK : K 0 H) : bits_Row_Len.C none H K := by
  apply bits_Row_Len.of
  exact bcd (fun _ => hK) fun h => absurd rfl h

theorem bits_Row_there.c {r q n : Nat} {s : Nat → Bool} {i : Int} {H : Hp} {K : Bool → Hp → Prop} (hu : BR H r q n s) (hK : K (decide (0 ≤ i ∧ i < (n : Int))) H) : bits_Row_there.C (some ⟨r, 0, none⟩) i H K := by
  apply bits_Row_there.of
  refine bcd (fun h => ?_) fun h => ?_
  · refine bits_Row_Len.c hu ?_
    have e : decide (0 ≤ i ∧ i < (n : Int)) = decide (i < (n : Int)) := decide_eq_decide.2 ⟨fun g => g.2, fun g => ⟨h, g⟩⟩
    rw [← e]; exact hK
  · rwa [decide_eq_false (fun g => h g.1)] at hK
theorem bits_Row_there.nil {i : Int} {H : Hp} {K : Bool → Hp → Prop} (hK : K false H) : bits_Row_there.C none i H K := by
  apply bits_Row_there.of
  refine bcd (fun h => ?_) fun h => hK
  refine bits_Row_Len.nil ?_
  rwa [decide_eq_false (by omega)]

/-- Is bit i on? -/
def hasB (s : Nat → Bool) (i : Int) : Bool := decide (0 ≤ i) && s i.toNat
theorem hasB_nat {s : Nat → Bool} {i : Nat} : hasB s (i : Int) = s i := by simp [hasB]
theorem tdiv64 {i : Nat} : Int.tdiv (i : Int) 64 = ((i / 64 : Nat) : Int) := by rw [Int.tdiv_eq_ediv_of_nonneg (by omega)]; omega
theorem tmod64 {i : Nat} : Int.tmod (i : Int) 64 = ((i % 64 : Nat) : Int) := by rw [Int.tmod_eq_emod_of_nonneg (by omega)]; omega

theorem bits_Row_Has.c {r q n : Nat} {s : Nat → Bool} {i : Int} {H : Hp} {K : Bool → Hp → Prop} (hu : BR H r q n s) (hK : K (hasB s i) H) : bits_Row_Has.C (some ⟨r, 0, none⟩) i H K := by
  apply bits_Row_Has.of
  refine bits_Row_there.c hu ?_
  refine bcd (fun h => ?_) (fun h => ?_)
  · obtain ⟨i, rfl⟩ : ∃ k : Nat, i = k := ⟨i.toNat, by omega⟩
    obtain ⟨w, c, g1, g2, g3, g4, g5, g6, g7, g8⟩ := hu.row
    have hn := hu.lim
    have hj : i / 64 < w.length := by omega
    refine nil ?_
    refine ldL_i g5 ?_
    refine ⟨by decide, ?_⟩
    rw [tdiv64, tmod64]
    refine chk (by omega) ?_
    refine idx hj ?_
    refine nil ?_
    refine ldI_i (by rw [Nat.zero_add]; exact g7 _ hj) ?_
    refine ⟨by decide, by omega, ?_⟩
    rw [bit_test (g1 _ (List.getElem_mem hj)) (Nat.mod_lt _ (by decide))]
    rw [hasB_nat, g8, wbit] at hK
    simpa [List.getD, hj] using hK
  · have : hasB s i = false := by
      unfold hasB
      by_cases h0 : 0 ≤ i
      · rw [hu.out _ (by omega)]; simp
      · simp [h0]
    rwa [this] at hK
theorem bits_Row_Has.nil {i : Int} {H : Hp} {K : Bool → Hp → Prop} (hK : K false H) : bits_Row_Has.C none i H K := by
  apply bits_Row_Has.of
  exact bits_Row_there.nil (bcF hK)

/-- Bit i put on or off. -/
def putB (s : Nat → Bool) (n : Nat) (i : Int) (on : Bool) : Nat → Bool := fun j => if (j : Int) = i ∧ j < n then on else s j

theorem wbit_set {w : List Nat} {i v : Nat} (hi : i / 64 < w.length) (hv : ∀ j, j < 64 → j ≠ i % 64 → v.testBit j = w[i / 64].testBit j) (j : Nat) : wbit (w.set (i / 64) v) j = if j = i then v.testBit (i % 64) else wbit w j := by
  unfold wbit
  simp only [List.getD, List.getElem?_set]
  by_cases e : i / 64 = j / 64
  · rw [if_pos e, if_pos hi]
    simp only [Option.getD_some]
    split
    · subst_vars; rfl
    · have : j / 64 < w.length := by omega
      rw [hv _ (Nat.mod_lt _ (by decide)) (by omega)]
      have e2 : w[j / 64]? = some w[i / 64] := by rw [← e]; simp [hi]
      rw [e2]; rfl
  · rw [if_neg e, if_neg (by intro h; subst h; exact e rfl)]

theorem BR.putw {r q n i v : Nat} {s : Nat → Bool} {on : Bool} {H : Hp} (hu : BR H r q n s) (hin : i < n) {w : List Nat} {c : Nat} (g1 : ∀ x ∈ w, x < 18446744073709551616) (g2 : w.length = (n + 63) / 64) (g3 : w.length ≤ c) (g4 : rd H r 0 = some (.int .i64 (n : Nat)))
    (g5 : rd H r 1 = some (.slice (some ⟨q, 0, none⟩) w.length c)) (g6 : ∃ cs, H q = some cs) (g7 : ∀ j (h : j < w.length), rd H q j = some (.int .u64 (w[j] : Nat))) (g8 : ∀ i, s i = wbit w i) (hi : i / 64 < w.length) (hvl : v < 18446744073709551616)
    (hv : ∀ j, j < 64 → j ≠ i % 64 → v.testBit j = w[i / 64].testBit j) (hon : v.testBit (i % 64) = on) : BR (wr H q (i / 64) (.int .u64 (v : Nat))) r q n (putB s n i on) := by
  refine ⟨hu.tz.mod (O := [q]) (Mod.refl.wr (.inl (by simp))) (by simpa using hu.gq.symm), hu.gq, hu.rq, hu.lim, ⟨w.set (i / 64) v, c, fun x hx => ?_, by simpa using g2, by simpa using g3, ?_, ?_, ?_, fun j hj => ?_, fun j => ?_⟩, fun j hj => ?_⟩
  · rcases List.mem_or_eq_of_mem_set hx with hx | rfl
    · exact g1 x hx
    · exact hvl
  · rw [rd_wr_ne hu.rq]; exact g4
  · rw [rd_wr_ne hu.rq]; simpa using g5
  · obtain ⟨cs, g6⟩ := g6
    exact ⟨_, by unfold wr; rw [if_pos rfl, g6]; rfl⟩
  · by_cases e : j = i / 64
    · subst e; rw [rd_wr_self (g7 _ hi)]; simp
    · rw [rd_wr_off e, g7 _ (by simpa using hj)]; simp [Ne.symm e]
  · rw [wbit_set hi hv, putB, hon, ← g8]
    by_cases e : j = i
    · subst e; rw [if_pos rfl, if_pos ⟨rfl, hin⟩]
    · rw [if_neg e, if_neg (fun g => e (by omega))]
  · rw [putB, if_neg (by omega)]; exact hu.out j hj

theorem bits_Row_Put.c {r q n : Nat} {s : Nat → Bool} {i : Int} {on : Bool} {H : Hp} {K : Hp → Prop} (hu : BR H r q n s) (hK : ∀ H', BR H' r q n (putB s n i on) → Mod [q] H H' → (∀ j, j ≠ i.toNat / 64 → rd H' q j = rd H q j) → K H') : bits_Row_Put.C (some ⟨r, 0, none⟩) i on H K := by
  apply bits_Row_Put.of
  refine bits_Row_there.c hu ?_
  refine bcn (fun h => ?_) (fun h => ?_)
  · have e : putB s n i on = s := funext fun j => by
      have := of_decide_eq_false h
      rw [putB, if_neg (by omega)]
    refine hK H (by rw [e]; exact hu) .refl (fun _ _ => rfl)
  · have h := of_decide_eq_true h
    obtain ⟨i, rfl⟩ : ∃ k : Nat, i = k := ⟨i.toNat, by omega⟩
    obtain ⟨w, c, g1, g2, g3, g4, g5, g6, g7, g8⟩ := hu.row
    have hn := hu.lim
    have hj : i / 64 < w.length := by omega
    have hm : i % 64 < 64 := Nat.mod_lt _ (by decide)
    have hw := g1 _ (List.getElem_mem hj)
    have hp := two_pow_lt hm
    have mq : ∀ v, Mod [q] H (wr H q (i / 64) v) := fun v => Mod.refl.wr (.inl (by simp))
    refine bc_i (fun hon => ?_) (fun hon => ?_)
    · refine nil ?_
      refine ldL_i g5 ?_
      refine ⟨by decide, ?_⟩
      rw [tdiv64, tmod64]
      refine chk (by omega) ?_
      refine idx hj ?_
      refine nil ?_
      refine ldI_i (by rw [Nat.zero_add]; exact g7 _ hj) ?_
      refine ⟨by decide, by omega, ?_⟩
      refine idx hj ?_
      refine nil ?_
      rw [ishl_one hm, ior_nat hw hp]
      refine st0 (g7 _ hj) (hK _ (hu.putw (by omega) g1 g2 g3 g4 g5 g6 g7 g8 hj ?_ (fun j hj' hne => ?_) ?_) (mq _) (fun j hj' => rd_wr_off (by simpa using hj')))
      · have : w[i / 64] ||| 2 ^ (i % 64) < 2 ^ 64 := Nat.or_lt_two_pow (by omega) (by omega)
        omega
      · rw [or_bit]; simp; intro h; omega
      · rw [or_bit, hon]; simp
    · refine nil ?_
      refine ldL_i g5 ?_
      refine ⟨by decide, ?_⟩
      rw [tdiv64, tmod64]
      refine chk (by omega) ?_
      refine idx hj ?_
      refine nil ?_
      refine ldI_i (by rw [Nat.zero_add]; exact g7 _ hj) ?_
      refine ⟨by decide, by omega, ?_⟩
      refine idx hj ?_
      refine nil ?_
      rw [ishl_one hm, inot_nat hw hp]
      refine st0 (g7 _ hj) (hK _ (hu.putw (by omega) g1 g2 g3 g4 g5 g6 g7 g8 hj (andNot_lt hw) (fun j hj' hne => ?_) ?_) (mq _) (fun j hj' => rd_wr_off (by simpa using hj')))
      · rw [andNot_bit hw hm]; simp; intro _ h; omega
      · rw [andNot_bit hw hm, hon]; simp

theorem bits_New.c {n : Int} {H : Hp} {K : Option Addr → Hp → Prop} (hT : Tz H)
    (hK : ∀ r q H', BR H' r q (min (max n 0) 1000).toNat (fun _ => false) → H r = none → H q = none → Le H H' → K (some ⟨r, 0, none⟩) H') : bits_New.C n H K := by
  apply bits_New.of
  obtain ⟨m, hm⟩ : ∃ m : Nat, min (max n 0) 1000 = (m : Int) := ⟨(min (max n 0) 1000).toNat, by omega⟩
  unfold bits_New.F
  rw [hm] at hK ⊢
  rw [Int.toNat_natCast] at hK
  refine chk (by omega) (chk (by omega) ⟨by decide, ?_⟩)
  have e : Int.tdiv ((m : Int) + 64 - 1) 64 = (((m + 63) / 64 : Nat) : Int) := by rw [Int.tdiv_eq_ediv_of_nonneg (by omega)]; omega
  rw [e]
  refine chk (by omega) ?_
  refine mk rfl (by omega) (by omega) ?_
  intro q hq r hr
  have hqr : r ≠ q := fun e => by subst e; simp [upd] at hr
  have le2 : Le H (upd (upd H q (rep ((m + 63) / 64) [.int .u64 0])) r [.int .i64 m, .slice (some ⟨q, 0, none⟩) ((m + 63) / 64) ((m + 63) / 64)]) := (Le.upd hq).trans (.upd hr)
  refine hK r q _ ⟨hT.le le2, fun e => hT.there (e ▸ hq), hqr, by omega, ⟨List.replicate ((m + 63) / 64) 0, (m + 63) / 64, fun x hx => by rw [(List.mem_replicate.1 hx).2]; decide, by simp, by simp, by rw [rd_upd_self]; rfl, by rw [rd_upd_self]; simp [nmO], ?_, fun j hj => ?_, fun i => ?_⟩, fun _ _ => rfl⟩ (none_of_le (.upd hq) hr) hq le2
  · exact ⟨_, by rw [upd_ne (Ne.symm hqr)]; unfold upd; rw [if_pos rfl]⟩
  · simp only [List.length_replicate] at hj
    rw [rd_upd_ne (Ne.symm hqr), rd_rep hj]; simp
  · unfold wbit
    have : (List.replicate ((m + 63) / 64) 0).getD (i / 64) 0 = 0 := by
      simp only [List.getD, List.getElem?_replicate]
      split <;> rfl
    rw [this]; simp

end Go.Proofs.YteijgmmjgbgffaaDoor
