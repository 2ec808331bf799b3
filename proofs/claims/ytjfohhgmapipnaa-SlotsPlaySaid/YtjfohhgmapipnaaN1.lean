/- Contracts. -/
import Derived.Test.YtjfohhgmapipnaaT1
namespace Go.Proofs.Ytjfohhgmapipnaa
open Go.V
/-! ### Numbers as bytes -/
theorem ofInt64' {a : Nat} (ha : a < 9223372036854775808) : (BitVec.ofInt 64 (a : Int)).toNat = a := ofInt64 (by omega)
theorem i64w {e : Int} (h : -9223372036854775808 ≤ e ∧ e < 9223372036854775808) : IntKind.wrap .i64 e = e := wrap_in .i64 (by simp [IntKind.min, IntKind.max, IntKind.signed, IntKind.bits]; omega)
theorem iand_i {a b : Nat} (ha : a < 9223372036854775808) (hb : b < 9223372036854775808) : iand .i64 (a : Int) (b : Int) = ((a &&& b : Nat) : Int) := by
  have hx : a &&& b < 2 ^ 63 := Nat.and_lt_two_pow _ (by omega)
  show IntKind.i64.wrap ((BitVec.ofInt 64 (a : Int) &&& BitVec.ofInt 64 (b : Int)).toNat : Int) = _
  rw [BitVec.toNat_and, ofInt64' ha, ofInt64' hb, i64w (by omega)]
theorem ior_i {a b : Nat} (ha : a < 9223372036854775808) (hb : b < 9223372036854775808) : ior .i64 (a : Int) (b : Int) = ((a ||| b : Nat) : Int) := by
  have hx : a ||| b < 2 ^ 63 := Nat.or_lt_two_pow (by omega) (by omega)
  show IntKind.i64.wrap ((BitVec.ofInt 64 (a : Int) ||| BitVec.ofInt 64 (b : Int)).toNat : Int) = _
  rw [BitVec.toNat_or, ofInt64' ha, ofInt64' hb, i64w (by omega)]
theorem ishl_i {a k : Nat} (hk : k < 64) (h : a * 2 ^ k < 9223372036854775808) : ishl .i64 (a : Int) (k : Int) = ((a * 2 ^ k : Nat) : Int) := by
  show IntKind.i64.wrap ((a : Int) * 2 ^ (min (k : Int).toNat 64)) = _
  have h1 : min (k : Int).toNat 64 = k := by omega
  have h3 : (a : Int) * ((2 : Int) ^ k) = ((a * 2 ^ k : Nat) : Int) := by norm_cast
  rw [h1, h3, i64w (by omega)]
theorem ishl_u {a k : Nat} (hk : k < 64) (h : a * 2 ^ k < 18446744073709551616) : ishl .u64 (a : Int) (k : Int) = ((a * 2 ^ k : Nat) : Int) := by
  show IntKind.u64.wrap ((a : Int) * 2 ^ (min (k : Int).toNat 64)) = _
  have h1 : min (k : Int).toNat 64 = k := by omega
  have h3 : (a : Int) * ((2 : Int) ^ k) = ((a * 2 ^ k : Nat) : Int) := by norm_cast
  rw [h1, h3, u64w (by omega)]
theorem ishr_i {a k : Nat} (hk : k < 64) : ishr .i64 (a : Int) (k : Int) = ((a / 2 ^ k : Nat) : Int) := by
  show (a : Int).fdiv (2 ^ (min (k : Int).toNat 64)) = _
  have h1 : min (k : Int).toNat 64 = k := by omega
  have h3 : ((2 : Int) ^ k) = ((2 ^ k : Nat) : Int) := by norm_cast
  rw [h1, h3, Int.fdiv_eq_ediv_of_nonneg _ (Int.natCast_nonneg _)]
  norm_cast
theorem u8w (n : Int) : IntKind.wrap .u8 n = n % 256 := by simp [IntKind.wrap, IntKind.bits, IntKind.signed]
theorem ofInt8 {a : Nat} (ha : a < 256) : (BitVec.ofInt 8 (a : Int)).toNat = a := by
  rw [BitVec.ofInt_natCast, BitVec.toNat_ofNat]; exact Nat.mod_eq_of_lt (by omega)
theorem iand_8 {a b : Nat} (ha : a < 256) (hb : b < 256) : iand .u8 (a : Int) (b : Int) = ((a &&& b : Nat) : Int) := by
  have hx : a &&& b < 2 ^ 8 := Nat.and_lt_two_pow _ (by omega)
  show IntKind.u8.wrap ((BitVec.ofInt 8 (a : Int) &&& BitVec.ofInt 8 (b : Int)).toNat : Int) = _
  rw [BitVec.toNat_and, ofInt8 ha, ofInt8 hb, u8w]; omega
theorem and127 (a : Nat) : a &&& 127 = a % 128 := Nat.and_two_pow_sub_one_eq_mod a 7
theorem or_add {m x k : Nat} (h : m < 2 ^ k) : m ||| x * 2 ^ k = m + x * 2 ^ k := by
  rw [Nat.or_comm, Nat.mul_comm, ← Nat.two_pow_add_eq_or_of_lt h, Nat.add_comm]
theorem or128 {m : Nat} (h : m < 128) : m ||| 128 = m + 128 := by
  have := or_add (m := m) (x := 1) (k := 7) h
  simpa using this
theorem and128_all : (List.range 256).all (fun c => decide (c &&& 128 = 0) == decide (c < 128)) = true := by kernel_rfl
theorem and128 (c : Nat) (h : c < 256) : c &&& 128 = 0 ↔ c < 128 := by
  have := List.all_eq_true.1 and128_all c (List.mem_range.2 h)
  simpa using this
theorem u8nat {n : Nat} (h : n < 256) : ((UInt8.ofNat n).toNat : Int) = (n : Int) := by rw [UInt8.toNat_ofNat_of_lt' (show n < UInt8.size from h)]

/-- A number's bytes: seven bits each, the lowest first; all but the last one have the eighth bit. -/
def numB (n : Nat) : BL := if h : n ≤ 127 then [UInt8.ofNat n] else UInt8.ofNat (n % 128 + 128) :: numB (n / 128)
termination_by n
decreasing_by omega
theorem numB_lo {n : Nat} (h : n ≤ 127) : numB n = [UInt8.ofNat n] := by rw [numB, dif_pos h]
theorem numB_hi {n : Nat} (h : ¬ n ≤ 127) : numB n = UInt8.ofNat (n % 128 + 128) :: numB (n / 128) := by rw [numB, dif_neg h]
theorem numB_len : ∀ (k n : Nat), n < 128 ^ (k + 1) → (numB n).length ≤ k + 1
  | 0, n, h => by rw [numB_lo (by omega)]; simp
  | k + 1, n, h => by
    by_cases h1 : n ≤ 127
    · rw [numB_lo h1]; simp
    · rw [numB_hi h1, List.length_cons]
      have := numB_len k (n / 128) (Nat.div_lt_of_lt_mul (by rw [Nat.pow_succ, Nat.mul_comm] at h; exact h))
      omega
theorem numB_len5 {n : Nat} (h : n ≤ 2147483647) : (numB n).length ≤ 5 := numB_len 4 n (by omega)
theorem numB_pos (n : Nat) : 0 < (numB n).length := by
  by_cases h : n ≤ 127
  · rw [numB_lo h]; simp
  · rw [numB_hi h]; simp
def numC (n : Int) : Nat := (min (max n 0) 2147483647).toNat
theorem numC_le (n : Int) : numC n ≤ 2147483647 := by unfold numC; omega
theorem numC_nat {n : Nat} (h : n ≤ 2147483647) : numC (n : Int) = n := by unfold numC; omega

/-- A buffer's bytes as a text. -/
theorem bts_bb {e : TypeId} {A H : Hp} {p : Option Addr} {cc : Nat} {l : BL} {F : ByteArray → Prop} (h : BB e A H p cc 0 l) (hF : F (mkB l)) : BTS H p l.length F := by
  rcases h.2.2 with ⟨h0, h1⟩ | ⟨q, r, h1, _⟩
  · have : l = [] := List.length_eq_zero_iff.1 (by have := h.1; omega)
    subst this; subst h0; exact hF
  · subst h1
    refine ⟨l, rfl, fun i x hx => ?_, hF⟩
    obtain ⟨hi, hx⟩ := List.getElem?_eq_some_iff.1 hx
    rw [Nat.zero_add, h.rd rfl (Nat.zero_le _) hi, hx]; rfl
theorem codec_Num.c {n : Int} {H : Hp} {K : ByteArray → Hp → Prop} (hK : ∀ H', Le H H' → K (mkB (numB (numC n))) H') : codec_Num.C n H K := by
  apply codec_Num.of
  refine ⟨fun n2 p l cc H' => ∃ (m : Nat) (bs : BL), n2 = (m : Nat) ∧ l = bs.length ∧ BB ty_uint8 H H' p cc 0 bs ∧ Le H H' ∧ bs ++ numB m = numB (numC n) ∧ m ≤ 2147483647, fun n2 _ _ _ _ => n2.toNat,
    ⟨numC n, [], by unfold numC; omega, rfl, BB.none, Le.refl _, rfl, numC_le n⟩, ?_⟩
  rintro n2 p l cc H1 ⟨m, bs, rfl, rfl, hB, le1, hb, hm⟩
  have hlen : (bs ++ numB m).length ≤ 5 := by rw [hb]; exact numB_len5 (numC_le n)
  rw [List.length_append] at hlen
  have hpos := numB_pos m
  refine bcd (fun h => ?_) (fun h => ?_)
  · have hv : IntKind.wrap .u8 (ior .i64 (iand .i64 ((m : Nat) : Int) (127 : Int)) (128 : Int)) = ((UInt8.ofNat (m % 128 + 128)).toNat : Nat) := by
      have e1 := iand_i (a := m) (b := 127) (by omega) (by omega)
      rw [show ((127 : Nat) : Int) = (127 : Int) from rfl] at e1
      rw [e1, and127]
      have e2 := ior_i (a := m % 128) (b := 128) (by omega) (by omega)
      rw [show ((128 : Nat) : Int) = (128 : Int) from rfl] at e2
      rw [e2, or128 (Nat.mod_lt _ (by decide)), u8w, u8nat (by omega)]
      omega
    rw [hv]
    intro b hb9
    have le2 : Le H (upd H1 b ([.int .u8 ((UInt8.ofNat (m % 128 + 128)).toNat : Nat)] ++ [tyM ty_uint8 0 0])) := le1.trans (Le.upd hb9)
    refine (hB.mod (O := []) (Le.upd (c := [.int .u8 ((UInt8.ofNat (m % 128 + 128)).toNat : Nat)] ++ [tyM ty_uint8 0 0]) hb9).mod (by simp)).app (te := te_uint8) (new := [UInt8.ofNat (m % 128 + 128)]) le2 rfl rfl rfl rfl src_one (.inl rfl) (by simp; omega) fun p' c' k' H2 hBB hA2 m2 hp hch => ?_
    have hk' : k' = 0 := by rcases hch with ⟨h, _⟩ | ⟨h, _⟩ <;> exact h
    subst hk'
    have e7 := ishr_i (a := m) (k := 7) (by omega)
    rw [show ((7 : Nat) : Int) = (7 : Int) from rfl] at e7
    refine ⟨by decide, ?_⟩
    rw [e7, show (2 : Nat) ^ 7 = 128 from rfl]
    refine ⟨⟨m / 128, bs ++ [UInt8.ofNat (m % 128 + 128)], rfl, by simp, hBB, hA2, ?_, by omega⟩, by first | omega | (dsimp only; omega)⟩
    rw [← hb, numB_hi (n := m) (by omega)]
    simp
  · have hv : IntKind.wrap .u8 ((m : Nat) : Int) = ((UInt8.ofNat m).toNat : Nat) := by
      rw [u8w, u8nat (by omega)]; omega
    rw [hv]
    intro b hb9
    have le2 : Le H (upd H1 b ([.int .u8 ((UInt8.ofNat m).toNat : Nat)] ++ [tyM ty_uint8 0 0])) := le1.trans (Le.upd hb9)
    refine (hB.mod (O := []) (Le.upd (c := [.int .u8 ((UInt8.ofNat m).toNat : Nat)] ++ [tyM ty_uint8 0 0]) hb9).mod (by simp)).app (te := te_uint8) (new := [UInt8.ofNat m]) le2 rfl rfl rfl rfl src_one (.inl rfl) (by simp; omega) fun p' c' k' H2 hBB hA2 m2 hp hch => ?_
    have hk' : k' = 0 := by rcases hch with ⟨h, _⟩ | ⟨h, _⟩ <;> exact h
    subst hk'
    rw [show bs.length + [UInt8.ofNat m].length = (bs ++ [UInt8.ofNat m]).length by simp]
    refine bts_bb hBB ?_
    rw [show bs ++ [UInt8.ofNat m] = numB (numC n) by rw [← hb, numB_lo (by omega)]]
    exact hK H2 hA2

/-- What is read of bytes, k of them read. -/
def digit (k m : Nat) : BL → Option (Nat × BL)
  | [] => none
  | x :: r => if 5 ≤ k then none else if 128 ≤ x.toNat then digit (k + 1) (m + (x.toNat % 128) * 2 ^ (7 * k)) r
    else if x.toNat = 0 ∧ 0 < k ∨ 2147483647 < m + (x.toNat % 128) * 2 ^ (7 * k) then none else some (m + (x.toNat % 128) * 2 ^ (7 * k), r)
theorem digit_numB : ∀ (j k m n : Nat) (r : BL), n < 128 ^ (j + 1) → j + k ≤ 4 → m + n * 2 ^ (7 * k) ≤ 2147483647 → (0 < n ∨ k = 0) → digit k m (numB n ++ r) = some (m + n * 2 ^ (7 * k), r)
  | j, k, m, n, r, hn, hj, hle, hp => by
    by_cases h1 : n ≤ 127
    · rw [numB_lo h1, List.singleton_append, digit, if_neg (by omega)]
      have e : (UInt8.ofNat n).toNat = n := UInt8.toNat_ofNat_of_lt' (show n < 256 by omega)
      rw [e, if_neg (by omega), show n % 128 = n by omega, if_neg (by omega)]
    · rw [numB_hi h1, List.cons_append, digit, if_neg (by omega)]
      have e : (UInt8.ofNat (n % 128 + 128)).toNat = n % 128 + 128 := UInt8.toNat_ofNat_of_lt' (show n % 128 + 128 < 256 by omega)
      rw [e, if_pos (by omega), show (n % 128 + 128) % 128 = n % 128 by omega]
      have hs : m + n % 128 * 2 ^ (7 * k) + n / 128 * 2 ^ (7 * (k + 1)) = m + n * 2 ^ (7 * k) := by
        rw [show 7 * (k + 1) = 7 * k + 7 by omega, Nat.pow_add, show (2 : Nat) ^ 7 = 128 from rfl]
        have : n * 2 ^ (7 * k) = (128 * (n / 128) + n % 128) * 2 ^ (7 * k) := by rw [Nat.div_add_mod]
        rw [this, Nat.add_mul, Nat.mul_comm (2 ^ (7 * k)) 128, ← Nat.mul_assoc, Nat.mul_comm (n / 128) 128]
        omega
      match j with
      | 0 => omega
      | j + 1 =>
        rw [digit_numB j (k + 1) _ (n / 128) r (Nat.div_lt_of_lt_mul (by rw [Nat.pow_succ, Nat.mul_comm] at hn; exact hn)) (by omega) (by rw [hs]; exact hle) (.inl (by omega)), hs]
theorem digit_num {n : Nat} (h : n ≤ 2147483647) (r : BL) : digit 0 0 (numB n ++ r) = some (n, r) := by
  have := digit_numB 4 0 0 n r (by omega) (by omega) (by simpa using h) (.inr rfl)
  simpa using this
theorem ext_drop (l : BL) (j : Nat) : (mkB l).extract j (mkB l).size = mkB (l.drop j) := L_inj (by rw [L_extract, L_size]; simp)
theorem ext_take (l : BL) (j : Nat) : (mkB l).extract 0 j = mkB (l.take j) := L_inj (by rw [L_extract]; simp)
theorem mkB_size (l : BL) : (mkB l).size = l.length := by rw [L_size]; rfl
theorem mkB_data (l : BL) : (mkB l).data.toList = l := rfl

theorem codec_Digit.c {l : BL} {H : Hp} {K : Int → ByteArray → Bool → Hp → Prop} (hbad : digit 0 0 l = none → K 0 (mkB l) false H) (hok : ∀ (n : Nat) r, digit 0 0 l = some (n, r) → n ≤ 2147483647 → K (n : Int) (mkB r) true H) : codec_Digit.C (mkB l) H K := by
  apply codec_Digit.of
  refine ⟨fun n2 t H' => ∃ k m : Nat, n2 = (m : Nat) ∧ t = (k : Nat) ∧ H' = H ∧ k ≤ l.length ∧ k ≤ 5 ∧ m < 2 ^ (7 * k) ∧ digit 0 0 l = digit k m (l.drop k), fun _ t _ => (5 - t).toNat, ⟨0, 0, rfl, rfl, rfl, Nat.zero_le _, by omega, by decide, rfl⟩, ?_⟩
  rintro n2 t H' ⟨k, m, rfl, rfl, rfl, hk, hk5, hm, hd⟩
  rw [mkB_size]
  refine bcd (fun h => ?_) (fun h => ?_)
  · have hkl : k < l.length := by omega
    have hk4 : k ≤ 4 := by omega
    refine idxN k rfl hkl ?_
    rw [mkB_data, show l.getD k 0 = l[k] by simp [List.getD, hkl]]
    generalize hx : l[k] = x
    have hdr : l.drop k = x :: l.drop (k + 1) := by rw [← hx]; exact (List.getElem_cons_drop hkl).symm
    rw [hdr, digit, if_neg (by omega)] at hd
    have hxl : x.toNat < 256 := x.toNat_lt
    have e1 := iand_8 (a := x.toNat) (b := 127) hxl (by omega)
    rw [show ((127 : Nat) : Int) = (127 : Int) from rfl, and127] at e1
    have e2 := iand_8 (a := x.toNat) (b := 128) hxl (by omega)
    rw [show ((128 : Nat) : Int) = (128 : Int) from rfl] at e2
    have h128 := and128 x.toNat hxl
    have hb7 : (2 : Nat) ^ (7 * k) ≤ 2 ^ 28 := Nat.pow_le_pow_right (by decide) (by omega)
    have hmul : x.toNat % 128 * 2 ^ (7 * k) ≤ 127 * 2 ^ (7 * k) := Nat.mul_le_mul_right _ (by omega)
    have e3 : ior .i64 ((m : Nat) : Int) (ishl .i64 ((x.toNat % 128 : Nat) : Int) ((7 * k : Nat) : Int)) = ((m + x.toNat % 128 * 2 ^ (7 * k) : Nat) : Int) := by
      rw [ishl_i (by omega) (by omega), ior_i (by omega) (by omega), or_add hm]
    have hm' : m + x.toNat % 128 * 2 ^ (7 * k) < 2 ^ (7 * (k + 1)) := by
      rw [show 7 * (k + 1) = 7 * k + 7 by omega, Nat.pow_add, show (2 : Nat) ^ 7 = 128 from rfl]; omega
    rw [e1, e2]
    refine chk (by omega) (chk (by omega) ⟨by omega, ?_⟩)
    rw [show (7 : Int) * (k : Nat) = ((7 * k : Nat) : Int) by omega, e3]
    refine bcd (fun h1 => ?_) (fun h1 => ?_)
    · rw [if_pos (by omega)] at hd
      exact chk (by omega) ⟨⟨k + 1, _, rfl, by omega, rfl, by omega, by omega, hm', hd⟩, by first | omega | (dsimp only; omega)⟩
    · rw [if_neg (by omega)] at hd
      have fin : ∀ (h2 : ¬ (x.toNat = 0 ∧ 0 < k)), bc (decide ((2147483647 : Int) < ((m + x.toNat % 128 * 2 ^ (7 * k) : Nat) : Int))) (K (0 : Int) (mkB l) false H') (CHK .i64 ((k : Nat) + (1 : Int)) fun x19 => BND (some x19) none l.length l.length fun j20 k21 => K ((m + x.toNat % 128 * 2 ^ (7 * k) : Nat) : Int) ((mkB l).extract j20 k21) true H') := by
        intro h2
        refine bcd (fun h3 => ?_) (fun h3 => ?_)
        · rw [if_pos (by omega)] at hd
          exact hbad hd
        · rw [if_neg (by omega)] at hd
          refine chk (by omega) (bnd10 (k + 1) (by omega) hkl ?_)
          rw [← mkB_size l, ext_drop]
          exact hok _ _ hd (by omega)
      refine bcd (fun h2 => bcd (fun h3 => ?_) fun h3 => ?_) (fun h2 => ?_)
      · rw [if_pos (by omega)] at hd
        exact hbad hd
      · exact fin (by omega)
      · exact fin (by omega)
  · refine hbad ?_
    rw [hd]
    by_cases h5 : k = l.length
    · rw [h5, List.drop_length]; rfl
    · have hkl : k < l.length := by omega
      have hdr : l.drop k = l[k] :: l.drop (k + 1) := (List.getElem_cons_drop hkl).symm
      rw [hdr, digit, if_pos (by omega)]
theorem codec_Reader_Num.c {q : Nat} {l : BL} {most : Int} {H : Hp} {K : Int → Hp → Prop} (h0 : rd H q 0 = some (.string (mkB l))) {f : Bool} (h1 : rd H q 1 = some (.bool f)) (hbad : (∀ (n : Nat) r, digit 0 0 l = some (n, r) → most < n) → K 0 (wr H q 1 (.bool true))) (hok : ∀ (n : Nat) r, digit 0 0 l = some (n, r) → n ≤ 2147483647 → (n : Int) ≤ most → K (n : Int) (wr H q 0 (.string (mkB r)))) : codec_Reader_Num.C (some ⟨q, 0, none⟩) most H K := by
  apply codec_Reader_Num.of
  refine nil (ldS_i h0 ?_)
  refine codec_Digit.c (fun hd => ?_) (fun n r hd hn => ?_)
  · exact bcn (fun _ => nil (st h1 (hbad fun n r h => by rw [hd] at h; cases h))) (fun h => by cases h)
  · refine bcn (fun h => by cases h) (fun _ => bcd (fun h => nil (st h1 (hbad fun n' r' h' => ?_))) fun h => nil (st h0 (hok n r hd hn (by omega))))
    rw [hd] at h'; simp only [Option.some.injEq, Prod.mk.injEq] at h'; omega
theorem internal_stringslite_HasPrefix.c {l p : BL} {H : Hp} {K : Bool → Hp → Prop} (hK : K (decide (l.take p.length = p)) H) : internal_stringslite_HasPrefix.C (mkB l) (mkB p) H K := by
  apply internal_stringslite_HasPrefix.of
  refine bcd (fun h => bnd01 p.length (by rw [mkB_size]) (by rw [mkB_size, mkB_size] at h; rw [mkB_size]; omega) ?_) (fun h => ?_)
  · rw [ext_take]
    have e : decide (mkB (l.take p.length) = mkB p) = decide (l.take p.length = p) := decide_eq_decide.2 eq_iff_L
    rw [e]; exact hK
  · rw [mkB_size, mkB_size] at h
    rw [decide_eq_false (fun e => by have := congrArg List.length e; simp at this; omega)] at hK; exact hK
theorem internal_stringslite_CutPrefix.c {l p : BL} {H : Hp} {K : ByteArray → Bool → Hp → Prop} (hno : l.take p.length ≠ p → K (mkB l) false H) (hyes : l.take p.length = p → K (mkB (l.drop p.length)) true H) : internal_stringslite_CutPrefix.C (mkB l) (mkB p) H K := by
  apply internal_stringslite_CutPrefix.of
  refine internal_stringslite_HasPrefix.c (bcn (fun h => hno (of_decide_eq_false h)) fun h => ?_)
  have h := of_decide_eq_true h
  have hl : p.length ≤ l.length := by have := congrArg List.length h; simp at this; omega
  refine bnd10 p.length (by rw [mkB_size]) (by rw [mkB_size]; exact hl) ?_
  rw [ext_drop]
  exact hyes h
theorem strings_CutPrefix.c {l p : BL} {H : Hp} {K : ByteArray → Bool → Hp → Prop} (hno : l.take p.length ≠ p → K (mkB l) false H) (hyes : l.take p.length = p → K (mkB (l.drop p.length)) true H) : strings_CutPrefix.C (mkB l) (mkB p) H K := by
  apply strings_CutPrefix.of
  exact internal_stringslite_CutPrefix.c hno hyes
end Go.Proofs.Ytjfohhgmapipnaa
