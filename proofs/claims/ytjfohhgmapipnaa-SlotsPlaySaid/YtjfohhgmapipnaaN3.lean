/- Contracts. -/
import Derived.Test.YtjfohhgmapipnaaN2
namespace Go.Proofs.Ytjfohhgmapipnaa
open Go.V
/-! ### A head read; the newest one -/
theorem getD_le8 {n i : Nat} (h : i < 8) (r : BL) : (((le8 n ++ r).getD i 0).toNat : Int) = ((n / 2 ^ (8 * i) % 256 : Nat) : Int) := by
  rw [List.getD_eq_getElem?_getD, List.getElem?_append_left (by rw [le8_len]; exact h), le8_get h, Option.getD_some, u8mod]
theorem slots_parsed.zero {x y : Int} {H : Hp} {K : Int → Int → Int → Int → Bool → Hp → Prop} (hK : ∀ H', Le H H' → K 0 0 0 0 false H') : slots_parsed.C (mkB zero64) x y H K := by
  apply slots_parsed.of
  intro b4 hb4
  have r4 : R4 (upd H b4 [.int .u64 0, .int .i64 0, .int .i64 0, .int .i64 0]) b4 0 0 0 0 := R4.new
  have le1 : Le H (upd H b4 [.int .u64 0, .int .i64 0, .int .i64 0, .int .i64 0]) := Le.upd hb4
  generalize upd H b4 [.int .u64 0, .int .i64 0, .int .i64 0, .int .i64 0] = H1 at r4 le1
  refine strings_CutPrefix.c (l := zero64) (p := signB) (fun _ => ?_) (fun h => absurd h (by decide))
  refine bcn (fun _ => ?_) (fun h => by cases h)
  exact r4.put fun H2 r2 m2 => r2.get (hK _ (m2.le le1 (by simpa using hb4)))
theorem step8 (n k : Nat) : n % 2 ^ (8 * k) ||| (n / 2 ^ (8 * k) % 256) * 2 ^ (8 * k) = n % 2 ^ (8 * (k + 1)) := by
  rw [or_add (Nat.mod_lt _ (Nat.two_pow_pos _)), show 8 * (k + 1) = 8 * k + 8 by omega, Nat.pow_add, Nat.mod_mul, show (2 : Nat) ^ 8 = 256 from rfl, Nat.mul_comm (2 ^ (8 * k))]
theorem slots_parsed.head {n a l at' : Nat} {room : Nat} {H : Hp} {K : Int → Int → Int → Int → Bool → Hp → Prop} (h0 : 0 < n) (hn : n < 18446744073709551616) (ha : a ≤ 1) (hl : l ≤ room) (hr : room ≤ 20000) (hK : ∀ H', Le H H' → K (n : Nat) (a : Nat) (l : Nat) (at' : Nat) true H') : slots_parsed.C (mkB (pad (headB n a l))) (at' : Nat) (room : Nat) H K := by
  apply slots_parsed.of
  intro b4 hb4
  have r4 : R4 (upd H b4 [.int .u64 0, .int .i64 0, .int .i64 0, .int .i64 0]) b4 0 0 0 0 := R4.new
  have le1 : Le H (upd H b4 [.int .u64 0, .int .i64 0, .int .i64 0, .int .i64 0]) := Le.upd hb4
  generalize upd H b4 [.int .u64 0, .int .i64 0, .int .i64 0, .int .i64 0] = H1 at r4 le1
  have epad : pad (headB n a l) = signB ++ (le8 n ++ (numB a ++ (numB l ++ List.replicate (64 - (headB n a l).length) 0))) := by simp [pad, headB]
  rw [epad]
  generalize List.replicate (64 - (headB n a l).length) (0 : UInt8) = z
  refine strings_CutPrefix.c (p := signB) (fun h => absurd (by simp) h) (fun _ => ?_)
  refine bcn (fun h => by cases h) (fun _ => ?_)
  rw [List.drop_left]
  intro b24 hb24
  have hb24H : H b24 = none := none_of_le le1 hb24
  have r24 : R4 (upd H1 b24 [.int .u64 0, .int .i64 0, .int .i64 0, .int .i64 0]) b24 0 0 0 0 := R4.new
  have r4' := r4.le (Le.upd (c := [.int .u64 0, .int .i64 0, .int .i64 0, .int .i64 0]) hb24)
  have le2 : Le H (upd H1 b24 [.int .u64 0, .int .i64 0, .int .i64 0, .int .i64 0]) := le1.trans (Le.upd hb24)
  have hne : b4 ≠ b24 := fun e => r4.there (e ▸ hb24)
  generalize upd H1 b24 [.int .u64 0, .int .i64 0, .int .i64 0, .int .i64 0] = H2 at r24 r4' le2
  refine r24.put fun H3 r3 m3 => ?_
  have le3 : Le H H3 := m3.le le2 (by simpa using hb24H)
  have r43 := r4'.mod m3 (by simpa using hne)
  clear r4 r24 r4' m3 le2 le1 hb24
  refine ⟨fun t H' => ∃ k : Nat, t = (k : Nat) ∧ k ≤ 8 ∧ Le H H' ∧ R4 H' b4 0 0 0 0 ∧ R4 H' b24 ((n % 2 ^ (8 * k) : Nat) : Int) 0 0 (at' : Nat), fun t _ => (8 - t).toNat,
    ⟨0, rfl, by omega, le3, r43, by simpa [Nat.mod_one] using r3⟩, ?_⟩
  clear r3 le3 r43
  rintro t H4 ⟨k, rfl, gk, le4, r44, r244⟩
  refine bcd (fun h => ?_) (fun h => ?_)
  · refine ldI_i r244.1 (idxN k rfl (by rw [mkB_size, List.length_append, le8_len]; omega) (chk (by omega) ?_))
    rw [mkB_data, getD_le8 (by omega)]
    have hm : n / 2 ^ (8 * k) % 256 < 256 := Nat.mod_lt _ (by decide)
    refine chkU64 (by omega) ⟨r244.1, by omega, ?_⟩
    have hp : 2 ^ (8 * k) ≤ 2 ^ 56 := Nat.pow_le_pow_right (by decide) (by omega)
    have hmul : n / 2 ^ (8 * k) % 256 * 2 ^ (8 * k) ≤ 255 * 2 ^ 56 := Nat.mul_le_mul (by omega) hp
    have hmod : n % 2 ^ (8 * k) ≤ n := Nat.mod_le _ _
    rw [show (8 : Int) * (k : Nat) = ((8 * k : Nat) : Int) by omega, ishl_u (by omega) (by omega), ior_nat (by omega) (by omega), step8]
    exact st r244.1 (chk (by omega) ⟨⟨k + 1, by omega, by omega, le4.wr hb24H, r44.mod (O := [b24]) (Mod.refl.wr (.inl (by simp))) (by simpa using hne), r244.s0⟩, by first | omega | (dsimp only; omega)⟩)
  have hk8 : k = 8 := by omega
  subst hk8
  rw [show n % 2 ^ (8 * 8) = n by exact Nat.mod_eq_of_lt hn] at r244
  refine bnd10 8 rfl (by rw [mkB_size, List.length_append, le8_len]; omega) ?_
  rw [ext_drop, show (8 : Nat) = (le8 n).length by rw [le8_len], List.drop_left]
  intro b43 hb43
  have hb43H : H b43 = none := none_of_le le4 hb43
  have le5 : Le H4 (upd H4 b43 [.string (mkB (numB a ++ (numB l ++ z))), .bool false]) := Le.upd hb43
  have q0 : rd (upd H4 b43 [.string (mkB (numB a ++ (numB l ++ z))), .bool false]) b43 0 = some (.string (mkB (numB a ++ (numB l ++ z)))) := by rw [rd_upd_self]; rfl
  have q1 : rd (upd H4 b43 [.string (mkB (numB a ++ (numB l ++ z))), .bool false]) b43 1 = some (.bool false) := by rw [rd_upd_self]; rfl
  have r45 := r44.le le5
  have r245 := r244.le le5
  have le5' := le4.trans le5
  have hn4 : b4 ≠ b43 := fun e => r44.there (e ▸ hb43)
  have hn24 : b24 ≠ b43 := fun e => r244.there (e ▸ hb43)
  generalize upd H4 b43 [.string (mkB (numB a ++ (numB l ++ z))), .bool false] = H5 at q0 q1 r45 r245 le5'
  refine codec_Reader_Num.c q0 q1 (fun hb => ?_) (fun n1 rr hd _ _ => ?_)
  · have := hb _ _ (digit_num (by omega) _); omega
  rw [digit_num (by omega)] at hd
  cases hd
  have q0' := rd_wr_self (v := .string (mkB (numB l ++ z))) q0
  have q1' : rd (wr H5 b43 0 (.string (mkB (numB l ++ z)))) b43 1 = some (.bool false) := by rw [rd_wr_off (by decide)]; exact q1
  refine codec_Reader_Num.c q0' q1' (fun hb => ?_) (fun n1 rr hd _ _ => ?_)
  · have := hb _ _ (digit_num (by omega) _); omega
  rw [digit_num (by omega)] at hd
  cases hd
  have m6 : Mod [b43] H5 (wr (wr H5 b43 0 (.string (mkB (numB l ++ z)))) b43 0 (.string (mkB z))) := (Mod.refl.wr (.inl (by simp))).wr (.inl (by simp))
  have r46 := r45.mod m6 (by simpa using hn4)
  have r246 := r245.mod m6 (by simpa using hn24)
  have q6 : rd (wr (wr H5 b43 0 (.string (mkB (numB l ++ z)))) b43 0 (.string (mkB z))) b43 1 = some (.bool false) := by rw [rd_wr_off (by decide)]; exact q1'
  have le6 := m6.le le5' (by simpa using hb43H)
  generalize wr (wr H5 b43 0 (.string (mkB (numB l ++ z)))) b43 0 (.string (mkB z)) = H6 at r46 r246 q6 le6
  refine st r246.2.1 (st r246.s1.2.2.1 ?_)
  have m7 : Mod [b24] H6 (wr (wr H6 b24 1 (.int .i64 (a : Nat))) b24 2 (.int .i64 (l : Nat))) := (Mod.refl.wr (.inl (by simp))).wr (.inl (by simp))
  have r247 := (r246.s1 (y1 := (a : Nat))).s2 (y2 := (l : Nat))
  have r47 := r46.mod m7 (by simpa using hne)
  have q7 := m7.rd (by simpa using Ne.symm hn24) q6
  have le7 := m7.le le6 (by simpa using hb24H)
  generalize wr (wr H6 b24 1 (.int .i64 (a : Nat))) b24 2 (.int .i64 (l : Nat)) = H7 at r47 r247 q7 le7
  refine r247.get (ldB_i q7 (bcn (fun _ => ldI_i r247.1 ?_) fun h => by cases h))
  refine r47.put fun H8 r8 m8 => ⟨(r247.mod m8 (by simpa using Ne.symm hne)).1, r8.get ?_⟩
  rw [show decide ((0 : Int) < (n : Nat)) = true from decide_eq_true (by omega)]
  exact hK _ (m8.le le7 (by simpa using hb4))

/-- A head: its number, its area, how long what is kept is. -/
structure Hd where
  n : Nat
  a : Nat
  l : Nat
def hb : Option Hd → BL
  | none => zero64
  | some h => pad (headB h.n h.a h.l)
def okH (N m : Nat) : Option Hd → Prop
  | none => True
  | some h => 0 < h.n ∧ h.n ≤ m ∧ h.a ≤ 1 ∧ h.l ≤ roomN N
/-- The one that counts: and the sector that it is in. -/
def nw (x : Hd × Nat) (i : Nat) : Option Hd → Hd × Nat
  | none => x
  | some h => if h.n ≤ x.1.n then x else (h, i)
theorem nw_le {x : Hd × Nat} {i : Nat} {h : Hd} (e : h.n ≤ x.1.n) : nw x i (some h) = x := if_pos e
theorem nw_gt {x : Hd × Nat} {i : Nat} {h : Hd} (e : ¬ h.n ≤ x.1.n) : nw x i (some h) = (h, i) := if_neg e
def best (x0 x1 : Option Hd) : Hd × Nat := nw (nw (⟨0, 1, 0⟩, 1) 0 x0) 1 x1
/-- The sectors as they must be. -/
structure Ok2 (s : DS) (N m : Nat) (x0 x1 : Option Hd) : Prop where
  w0 : s.w = []
  len : s.l.length = N
  c64 : ∀ x ∈ s.l, x.length = 64
  h0 : s.l[0]? = some (hb x0)
  h1 : s.l[1]? = some (hb x1)
  ok0 : okH N m x0
  ok1 : okH N m x1
  big : 21 ≤ N ∧ N ≤ 1000
  few : m < 18446744073709551616
section
variable {H : Hp} {d : Nat} {O : List Nat} {s : DS}
theorem slots_newest.off {K : Int → Int → Int → Int → Int → Hp → Prop} (hu : Dk H d O s) (hw : s.w.length ≤ 1000000000) (hN : 21 ≤ s.l.length) (off : ¬ s.on) (hK : ∀ H', Le H H' → K 0 0 0 0 23 H') : slots_newest.C (some ⟨d, 0, none⟩) H K := by
  apply slots_newest.of
  intro b2 hb2
  have r2 : R4 (upd H b2 [.int .u64 0, .int .i64 0, .int .i64 0, .int .i64 0]) b2 0 0 0 0 := R4.new
  have le1 : Le H (upd H b2 [.int .u64 0, .int .i64 0, .int .i64 0, .int .i64 0]) := Le.upd hb2
  generalize upd H b2 [.int .u64 0, .int .i64 0, .int .i64 0, .int .i64 0] = H1 at r2 le1
  intro b4 hb4
  have hb4H : H b4 = none := none_of_le le1 hb4
  have r4 : R4 (upd H1 b4 [.int .u64 0, .int .i64 0, .int .i64 0, .int .i64 0]) b4 0 0 0 0 := R4.new
  have r2' := r2.le (Le.upd (c := [.int .u64 0, .int .i64 0, .int .i64 0, .int .i64 0]) hb4)
  have le2 : Le H (upd H1 b4 [.int .u64 0, .int .i64 0, .int .i64 0, .int .i64 0]) := le1.trans (Le.upd hb4)
  have hne : b2 ≠ b4 := fun e => r2.there (e ▸ hb4)
  generalize upd H1 b4 [.int .u64 0, .int .i64 0, .int .i64 0, .int .i64 0] = H2 at r2' r4 le2
  refine r4.put fun H3 r3 m3 => ?_
  have le3 := m3.le le2 (by simpa using hb4H)
  have r23 := r2'.mod m3 (by simpa using hne)
  refine sector_Disk_Len.c (hu.le le3) ?_
  refine ⟨fun t H' => t = 0 ∧ H' = H3, fun t _ => 0, ⟨rfl, rfl⟩, ?_⟩
  rintro t H' ⟨rfl, e⟩
  subst e
  refine bcd (fun _ => ?_) (fun h => absurd h (by omega))
  refine sector_Disk_Read.c (hu.le le3) hw fun H4 le4 => ?_
  have e23 : s.readE 0 = 23 := by unfold DS.readE; rw [if_neg off]
  rw [e23]
  refine bcd (fun _ => ?_) (fun h => absurd h (by decide))
  exact (r23.le le4).put fun H5 r5 m5 => r5.get (hK _ (m5.le (le3.trans le4) (by simpa using hb2)))
theorem slots_newest.c {K : Int → Int → Int → Int → Int → Hp → Prop} {N m : Nat} {x0 x1 : Option Hd} (hu : Dk H d O s) (h : Ok2 s N m x0 x1) (on : s.on) (hK : ∀ H', Le H H' → K ((best x0 x1).1.n : Nat) ((best x0 x1).1.a : Nat) ((best x0 x1).1.l : Nat) ((best x0 x1).2 : Nat) 0 H') : slots_newest.C (some ⟨d, 0, none⟩) H K := by
  have hN := h.big
  have hlen := h.len
  apply slots_newest.of
  intro b2 hb2
  have r2 : R4 (upd H b2 [.int .u64 0, .int .i64 0, .int .i64 0, .int .i64 0]) b2 0 0 0 0 := R4.new
  have le1 : Le H (upd H b2 [.int .u64 0, .int .i64 0, .int .i64 0, .int .i64 0]) := Le.upd hb2
  generalize upd H b2 [.int .u64 0, .int .i64 0, .int .i64 0, .int .i64 0] = H1 at r2 le1
  intro b4 hb4
  have hb4H : H b4 = none := none_of_le le1 hb4
  have r4 : R4 (upd H1 b4 [.int .u64 0, .int .i64 0, .int .i64 0, .int .i64 0]) b4 0 0 0 0 := R4.new
  have r2' := r2.le (Le.upd (c := [.int .u64 0, .int .i64 0, .int .i64 0, .int .i64 0]) hb4)
  have le2 : Le H (upd H1 b4 [.int .u64 0, .int .i64 0, .int .i64 0, .int .i64 0]) := le1.trans (Le.upd hb4)
  have hne : b2 ≠ b4 := fun e => r2.there (e ▸ hb4)
  generalize upd H1 b4 [.int .u64 0, .int .i64 0, .int .i64 0, .int .i64 0] = H2 at r2' r4 le2
  refine r4.put fun H3 r3 m3 => ?_
  have le3 := m3.le le2 (by simpa using hb4H)
  have r23 := r2'.mod m3 (by simpa using hne)
  refine sector_Disk_Len.c (hu.le le3) ?_
  clear r2 r2' r4 le1 le2 m3 hb4
  refine ⟨fun t H' => ∃ (k : Nat) (x : Hd × Nat), t = (k : Nat) ∧ k ≤ 2 ∧ Le H H' ∧ R4 H' b2 0 0 0 0 ∧ R4 H' b4 (x.1.n : Nat) (x.1.a : Nat) (x.1.l : Nat) (x.2 : Nat) ∧ (k = 0 → x = (⟨0, 1, 0⟩, 1)) ∧ (k = 1 → x = nw (⟨0, 1, 0⟩, 1) 0 x0) ∧ (k = 2 → x = best x0 x1), fun t _ => (2 - t).toNat,
    ⟨0, (⟨0, 1, 0⟩, 1), rfl, by omega, le3, r23, r3, fun _ => rfl, fun hh => absurd hh (by decide), fun hh => absurd hh (by decide)⟩, ?_⟩
  clear r23 le3 r3
  rintro t H4 ⟨k, x, rfl, gk, le4, r24, r44, e0, e1, e2⟩
  refine bcd (fun hk => ?_) (fun hk => ?_)
  · refine sector_Disk_Read.c (hu.le le4) (by rw [h.w0]; exact Nat.zero_le _) fun H5 le5 => ?_
    have hfit : s.fits ((k : Nat) : Int) := ⟨by omega, by rw [hlen]; omega⟩
    have hre : s.readE ((k : Nat) : Int) = 0 := by unfold DS.readE; rw [if_pos on, if_pos hfit]
    obtain ⟨y, hy, hoky, hstep⟩ : ∃ y, s.l[k]? = some (hb y) ∧ okH N m y ∧ (k + 1 = 1 → nw x k y = nw (⟨0, 1, 0⟩, 1) 0 x0) ∧ (k + 1 = 2 → nw x k y = best x0 x1) := by
      have : k = 0 ∨ k = 1 := by omega
      rcases this with rfl | rfl
      · exact ⟨x0, h.h0, h.ok0, fun _ => by rw [e0 rfl], fun hh => absurd hh (by decide)⟩
      · exact ⟨x1, h.h1, h.ok1, fun hh => absurd hh (by decide), fun _ => by rw [e1 rfl]; rfl⟩
    have hrd : s.read ((k : Nat) : Int) = hb y := by
      unfold DS.read
      rw [if_pos on, if_pos hfit, h.w0, Int.toNat_natCast, List.getD_eq_getElem?_getD, hy]
      rfl
    rw [hre, hrd]
    refine bcd (fun h => absurd rfl h) (fun _ => ?_)
    refine slots_Room.c ((hu.le le4).le le5) (by omega) ?_
    rw [hlen]
    have next : ∀ H' x', Le H5 H' → R4 H' b2 0 0 0 0 → R4 H' b4 (x'.1.n : Nat) (x'.1.a : Nat) (x'.1.l : Nat) (x'.2 : Nat) → x' = nw x k y → (∃ (k' : Nat) (z : Hd × Nat), ((k : Nat) : Int) + 1 = (k' : Nat) ∧ k' ≤ 2 ∧ Le H H' ∧ R4 H' b2 0 0 0 0 ∧ R4 H' b4 (z.1.n : Nat) (z.1.a : Nat) (z.1.l : Nat) (z.2 : Nat) ∧ (k' = 0 → z = (⟨0, 1, 0⟩, 1)) ∧ (k' = 1 → z = nw (⟨0, 1, 0⟩, 1) 0 x0) ∧ (k' = 2 → z = best x0 x1)) := by
      intro H' x' hle a2 a4 ex
      exact ⟨k + 1, x', by omega, by omega, (le4.trans le5).trans hle, a2, a4, fun h => by omega, fun h => ex.trans (hstep.1 h), fun h => ex.trans (hstep.2 h)⟩
    cases y with
    | none =>
      refine slots_parsed.zero fun H6 le6 => ?_
      intro b47 hb47
      have r47 : R4 (upd H6 b47 [.int .u64 0, .int .i64 0, .int .i64 0, .int .i64 0]) b47 0 0 0 0 := R4.new
      have le7 : Le H5 (upd H6 b47 [.int .u64 0, .int .i64 0, .int .i64 0, .int .i64 0]) := le6.trans (Le.upd hb47)
      have hb47' : H5 b47 = none := none_of_le le6 hb47
      refine r47.put fun H8 r8 m8 => ?_
      have le8 := m8.le le7 (by simpa using hb47')
      refine bcn (fun _ => chk (by omega) ⟨next H8 x le8 (r24.le (le5.trans le8)) (r44.le (le5.trans le8)) rfl, by first | omega | (dsimp only; omega)⟩) fun h => by cases h
    | some g =>
      obtain ⟨g0, g1, g2, g3⟩ := hoky
      have hfew := h.few
      refine slots_parsed.head g0 (by omega) g2 g3 (roomN_le N) fun H6 le6 => ?_
      intro b47 hb47
      have r47 : R4 (upd H6 b47 [.int .u64 0, .int .i64 0, .int .i64 0, .int .i64 0]) b47 0 0 0 0 := R4.new
      have le7 : Le H5 (upd H6 b47 [.int .u64 0, .int .i64 0, .int .i64 0, .int .i64 0]) := le6.trans (Le.upd hb47)
      have hb47' : H5 b47 = none := none_of_le le6 hb47
      refine r47.put fun H8 r8 m8 => ?_
      have le8 := m8.le le7 (by simpa using hb47')
      have a4 := r44.le (le5.trans le8)
      have a2 := r24.le (le5.trans le8)
      refine bcn (fun h => by cases h) fun _ => ldI_i r8.1 (ldI_i a4.1 (bcd (fun hle => ?_) fun hle => ?_))
      · refine chk (by omega) ⟨next H8 x le8 a2 a4 ?_, by first | omega | (dsimp only; omega)⟩
        rw [nw_le (by omega)]
      · refine r8.get (a4.put fun H9 r9 m9 => ?_)
        have hH5 : H5 b4 ≠ none := (r44.le le5).there
        have le9 : Le H H9 := m9.le ((le4.trans le5).trans le8) (by simpa using hb4H)
        refine chk (by omega) ⟨?_, by first | omega | (dsimp only; omega)⟩
        exact ⟨k + 1, (g, k), by omega, by omega, le9, a2.mod m9 (by simpa using hne), r9, fun h => by omega, fun hh => by rw [← hstep.1 hh]; rw [nw_gt (by omega)], fun hh => by rw [← hstep.2 hh]; rw [nw_gt (by omega)]⟩
  have hk2 : k = 2 := by omega
  have ex := e2 hk2
  subst ex
  refine r44.get (r24.put fun H5 r5 m5 => r5.get (hK _ (m5.le le4 (by simpa using hb2))))
end
end Go.Proofs.Ytjfohhgmapipnaa
