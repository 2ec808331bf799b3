/- Contracts. -/
import Derived.Test.YtjfohhgmapipnaaT6
import Derived.Test.YtjfohhgmapipnaaN1
namespace Go.Proofs.Ytjfohhgmapipnaa
open Go.V
/-! ### A head, as a block and as bytes -/
def R4 (H : Hp) (b : Nat) (x0 x1 x2 x3 : Int) : Prop := rd H b 0 = some (.int .u64 x0) ∧ rd H b 1 = some (.int .i64 x1) ∧ rd H b 2 = some (.int .i64 x2) ∧ rd H b 3 = some (.int .i64 x3)
section
variable {H H' : Hp} {b : Nat} {O : List Nat} {x0 x1 x2 x3 y0 y1 y2 y3 : Int}
theorem R4.mod (h : R4 H b x0 x1 x2 x3) (hm : Mod O H H') (hb : b ∉ O) : R4 H' b x0 x1 x2 x3 := ⟨hm.rd hb h.1, hm.rd hb h.2.1, hm.rd hb h.2.2.1, hm.rd hb h.2.2.2⟩
theorem R4.le (h : R4 H b x0 x1 x2 x3) (hm : Le H H') : R4 H' b x0 x1 x2 x3 := h.mod (O := []) hm.mod (by simp)
theorem R4.there (h : R4 H b x0 x1 x2 x3) : H b ≠ none := ne_none_of_rd h.1
theorem R4.new : R4 (upd H b [.int .u64 x0, .int .i64 x1, .int .i64 x2, .int .i64 x3]) b x0 x1 x2 x3 := ⟨by rw [rd_upd_self]; rfl, by rw [rd_upd_self]; rfl, by rw [rd_upd_self]; rfl, by rw [rd_upd_self]; rfl⟩
theorem R4.s0 (h : R4 H b x0 x1 x2 x3) : R4 (wr H b 0 (.int .u64 y0)) b y0 x1 x2 x3 := ⟨rd_wr_self h.1, by rw [rd_wr_off (by decide)]; exact h.2.1, by rw [rd_wr_off (by decide)]; exact h.2.2.1, by rw [rd_wr_off (by decide)]; exact h.2.2.2⟩
theorem R4.s1 (h : R4 H b x0 x1 x2 x3) : R4 (wr H b 1 (.int .i64 y1)) b x0 y1 x2 x3 := ⟨by rw [rd_wr_off (by decide)]; exact h.1, rd_wr_self h.2.1, by rw [rd_wr_off (by decide)]; exact h.2.2.1, by rw [rd_wr_off (by decide)]; exact h.2.2.2⟩
theorem R4.s2 (h : R4 H b x0 x1 x2 x3) : R4 (wr H b 2 (.int .i64 y2)) b x0 x1 y2 x3 := ⟨by rw [rd_wr_off (by decide)]; exact h.1, by rw [rd_wr_off (by decide)]; exact h.2.1, rd_wr_self h.2.2.1, by rw [rd_wr_off (by decide)]; exact h.2.2.2⟩
theorem R4.s3 (h : R4 H b x0 x1 x2 x3) : R4 (wr H b 3 (.int .i64 y3)) b x0 x1 x2 y3 := ⟨by rw [rd_wr_off (by decide)]; exact h.1, by rw [rd_wr_off (by decide)]; exact h.2.1, by rw [rd_wr_off (by decide)]; exact h.2.2.1, rd_wr_self h.2.2.2⟩
theorem R4.put {K : Hp → Prop} (h : R4 H b x0 x1 x2 x3) (hK : ∀ H', R4 H' b y0 y1 y2 y3 → Mod [b] H H' → K H') :
    ST H b 0 (.int .u64 y0) fun H1 => ST H1 b 1 (.int .i64 y1) fun H2 => ST H2 b 2 (.int .i64 y2) fun H3 => ST H3 b 3 (.int .i64 y3) K := by
  have h1 := h.s0 (y0 := y0)
  have h2 := h1.s1 (y1 := y1)
  have h3 := h2.s2 (y2 := y2)
  exact st h.1 (st h1.2.1 (st h2.2.2.1 (st h3.2.2.2 (hK _ (h3.s3 (y3 := y3)) ((((Mod.refl.wr (.inl (by simp))).wr (.inl (by simp))).wr (.inl (by simp))).wr (.inl (by simp)))))))
theorem R4.get {K : Int → Int → Int → Int → Prop} (h : R4 H b x0 x1 x2 x3) (hK : K x0 x1 x2 x3) :
    ldI .u64 (rd H b 0) fun r0 => ldI .i64 (rd H b 1) fun r1 => ldI .i64 (rd H b 2) fun r2 => ldI .i64 (rd H b 3) fun r3 => K r0 r1 r2 r3 :=
  ldI_i h.1 (ldI_i h.2.1 (ldI_i h.2.2.1 (ldI_i h.2.2.2 hK)))
end

/-- Sectors of an area; the room. -/
def secN (N : Nat) : Nat := (N - 2) / 2
def roomN (N : Nat) : Nat := if N < 21 then 0 else min (64 * secN N) 20000
theorem roomN_le (N : Nat) : roomN N ≤ 20000 := by unfold roomN; split <;> omega
theorem roomN_sec {N n : Nat} (h : n ≤ roomN N) (hN : 21 ≤ N) : n ≤ 64 * secN N := by unfold roomN at h; rw [if_neg (by omega)] at h; omega
section
variable {H : Hp} {d : Nat} {O : List Nat} {s : DS}
theorem slots_sectors.c {K : Int → Hp → Prop} (hu : Dk H d O s) (hl : s.l.length ≤ 1000000000) (hK : K (secN s.l.length : Nat) H) : slots_sectors.C (some ⟨d, 0, none⟩) H K := by
  apply slots_sectors.of
  refine sector_Disk_Len.c hu (chk (by omega) ⟨by decide, ?_⟩)
  have e : Int.tdiv (max (((s.l.length : Nat) : Int) - 2) 0) 2 = ((secN s.l.length : Nat) : Int) := by
    rw [show max (((s.l.length : Nat) : Int) - 2) 0 = ((s.l.length - 2 : Nat) : Int) by omega]
    show (((s.l.length - 2 : Nat) : Int)).tdiv ((2 : Nat) : Int) = _
    rw [← Int.ofNat_tdiv]; rfl
  rw [e]
  exact chk (by unfold secN; omega) hK
theorem slots_Room.c {K : Int → Hp → Prop} (hu : Dk H d O s) (hl : s.l.length ≤ 1000000000) (hK : K (roomN s.l.length : Nat) H) : slots_Room.C (some ⟨d, 0, none⟩) H K := by
  apply slots_Room.of
  unfold roomN at hK
  refine sector_Disk_Len.c hu (bcd (fun h => ?_) fun h => ?_)
  · rw [if_pos (by omega)] at hK; exact hK
  · rw [if_neg (by omega)] at hK
    refine slots_sectors.c hu hl (chk (by unfold secN; omega) ?_)
    rw [show min ((64 : Int) * ((secN s.l.length : Nat) : Int)) (20000 : Int) = ((min (64 * secN s.l.length) 20000 : Nat) : Int) by omega]
    exact hK
end

def le8 (n : Nat) : BL := (List.range 8).map fun i => UInt8.ofNat (n / 2 ^ (8 * i) % 256)
theorem le8_len (n : Nat) : (le8 n).length = 8 := by simp [le8]
theorem le8_get {n i : Nat} (h : i < 8) : (le8 n)[i]? = some (UInt8.ofNat (n / 2 ^ (8 * i) % 256)) := by simp [le8, h]
theorem u8mod (x : Nat) : ((UInt8.ofNat (x % 256)).toNat : Int) = ((x % 256 : Nat) : Int) := u8nat (Nat.mod_lt _ (by decide))
def signB : BL := [99, 101, 110, 116, 111, 58]
def headB (n a l : Nat) : BL := signB ++ (le8 n ++ (numB a ++ numB l))
theorem headB_len {n a l : Nat} (ha : a ≤ 2147483647) (hl : l ≤ 2147483647) : (headB n a l).length ≤ 24 := by
  have := numB_len5 ha
  have := numB_len5 hl
  simp [headB, le8_len, signB]; omega
theorem mk_app (a b : BL) : mkB a ++ mkB b = mkB (a ++ b) := L_inj (by rw [L_append]; rfl)
theorem slots_head_bytes.c {n a l x : Nat} {H : Hp} {K : ByteArray → Hp → Prop} (_ : n < 18446744073709551616) (ha : a ≤ 2147483647) (hl : l ≤ 2147483647) (hK : ∀ H', Le H H' → K (mkB (headB n a l)) H') : slots_head_bytes.C (n : Nat) (a : Nat) (l : Nat) (x : Nat) H K := by
  apply slots_head_bytes.of
  intro b5 hb5
  have r5 : R4 (upd H b5 [.int .u64 (n : Nat), .int .i64 (a : Nat), .int .i64 (l : Nat), .int .i64 (x : Nat)]) b5 (n : Nat) (a : Nat) (l : Nat) (x : Nat) := R4.new
  have le1 : Le H (upd H b5 [.int .u64 (n : Nat), .int .i64 (a : Nat), .int .i64 (l : Nat), .int .i64 (x : Nat)]) := Le.upd hb5
  generalize upd H b5 [.int .u64 (n : Nat), .int .i64 (a : Nat), .int .i64 (l : Nat), .int .i64 (x : Nat)] = H1 at r5 le1
  intro b7 hb7
  have hz : ∀ i, i < 8 → rd (upd H1 b7 [.int .u8 0, .int .u8 0, .int .u8 0, .int .u8 0, .int .u8 0, .int .u8 0, .int .u8 0, .int .u8 0]) b7 i = some (.int .u8 0) := by
    intro i hi
    rw [rd_upd_self]
    match i, hi with
    | 0, _ => rfl | 1, _ => rfl | 2, _ => rfl | 3, _ => rfl | 4, _ => rfl | 5, _ => rfl | 6, _ => rfl | 7, _ => rfl
  have r5' := r5.le (Le.upd (c := [.int .u8 0, .int .u8 0, .int .u8 0, .int .u8 0, .int .u8 0, .int .u8 0, .int .u8 0, .int .u8 0]) hb7)
  have le2 := le1.trans (Le.upd (c := [.int .u8 0, .int .u8 0, .int .u8 0, .int .u8 0, .int .u8 0, .int .u8 0, .int .u8 0, .int .u8 0]) hb7)
  have hb7H : H b7 = none := none_of_le le1 hb7
  have hne : b5 ≠ b7 := fun e => r5.there (e ▸ hb7)
  generalize upd H1 b7 [.int .u8 0, .int .u8 0, .int .u8 0, .int .u8 0, .int .u8 0, .int .u8 0, .int .u8 0, .int .u8 0] = H2 at hz r5' le2
  refine ⟨fun t H' => ∃ k : Nat, t = (k : Nat) ∧ k ≤ 8 ∧ Le H H' ∧ R4 H' b5 (n : Nat) (a : Nat) (l : Nat) (x : Nat) ∧ (∀ i, i < 8 → ∃ y, rd H' b7 i = some (.int .u8 y)) ∧ ∀ i, i < k → rd H' b7 i = some (.int .u8 ((n / 2 ^ (8 * i) % 256 : Nat) : Int)), fun t _ => (8 - t).toNat,
    ⟨0, rfl, by omega, le2, r5', fun i hi => ⟨0, hz i hi⟩, fun i hi => absurd hi (by omega)⟩, ?_⟩
  clear hz r5' le2 r5 le1
  rintro t H3 ⟨k, rfl, gk, le3, r3, hc, hv⟩
  refine bcd (fun h => ?_) (fun h => ?_)
  · refine ldI_i r3.1 (chk (by omega) ⟨by omega, idxN k rfl (by omega) ?_⟩)
    have e : IntKind.wrap .u8 (ishr .u64 ((n : Nat) : Int) ((8 : Int) * (k : Nat))) = ((n / 2 ^ (8 * k) % 256 : Nat) : Int) := by
      rw [show (8 : Int) * (k : Nat) = ((8 * k : Nat) : Int) by omega, ishr_nat (by omega), u8w]; omega
    rw [e]
    rw [Nat.zero_add]
    obtain ⟨y, hy⟩ := hc k (by omega)
    refine st hy (chk (by omega) ⟨⟨k + 1, by omega, by omega, le3.wr hb7H, r3.mod (O := [b7]) (Mod.refl.wr (.inl (by simp))) (by simpa using hne), fun i hi => ?_, fun i hi => ?_⟩, by first | omega | (dsimp only; omega)⟩)
    · by_cases e : i = k
      · subst e; exact ⟨_, rd_wr_self hy⟩
      · rw [rd_wr_off e]; exact hc i hi
    · by_cases e : i = k
      · subst e; exact rd_wr_self hy
      · rw [rd_wr_off e]; exact hv i (by omega)
  have hk8 : k = 8 := by omega
  subst hk8
  have bts : ∀ {H' : Hp} {F : ByteArray → Prop}, Le H3 H' → F (mkB (le8 n)) → BTS H' (movA (some ⟨b7, 0, none⟩) 0 1 8) (8 - 0) F := by
    intro H' F hle hF
    show BTS H' (some ⟨b7, 0 + mulS 0 1, none⟩) 8 F
    refine ⟨le8 n, le8_len n, fun i z hz => ?_, hF⟩
    obtain ⟨hi, _⟩ := List.getElem?_eq_some_iff.1 hz
    rw [le8_len] at hi
    rw [le8_get hi] at hz
    cases hz
    show rd H' b7 (0 + mulS 0 1 + i) = _
    rw [show 0 + mulS 0 1 + i = i by simp [mulS], hle.rd (hv i hi), u8mod]
  have s6 : (bs [99, 101, 110, 116, 111, 58]) = mkB signB := rfl
  have na := numB_len5 ha
  have nl := numB_len5 hl
  have ea := numC_nat ha
  have el := numC_nat hl
  have sl : signB.length = 6 := rfl
  have l8 := le8_len n
  have fin : ((mkB signB ++ mkB (le8 n)) ++ mkB (numB a)) ++ mkB (numB l) = mkB (headB n a l) := by
    rw [mk_app, mk_app, mk_app]; simp [headB]
  rw [s6]
  refine ldI_i r3.2.1 (ldI_i r3.2.2.1 ⟨bts (Le.refl _) ⟨r3.2.2.1, r3.2.1, by rw [mkB_size, mkB_size]; omega, codec_Num.c fun H4 le4 => ⟨(r3.le le4).2.2.1, ?_, codec_Num.c fun H5 le5 => ⟨?_, ?_⟩⟩⟩, codec_Num.c fun H4 le4 => ⟨(r3.le le4).2.2.1, bts le4 ⟨(r3.le le4).2.2.1, by rw [mkB_size, mkB_size]; omega, ?_, codec_Num.c fun H5 le5 => ⟨?_, ?_⟩⟩, codec_Num.c fun H5 le5 => bts (le4.trans le5) ⟨by rw [mkB_size, mkB_size]; omega, ?_, ?_, ?_⟩⟩⟩)
  all_goals first
    | (rw [ea, el, fin]; exact hK _ ((le3.trans le4).trans le5))
    | (rw [ea, el, mk_app, mk_app, mkB_size, mkB_size, List.length_append, List.length_append]; omega)
    | (rw [ea, mk_app, mkB_size, mkB_size, List.length_append]; omega)
end Go.Proofs.Ytjfohhgmapipnaa
