/- Numbers of 64 bits as sets. No program in sight. -/
import Derived.Test.YteijgmmjgbgffaaDoorVcMem
import Derived.Laws.Bits64b
import Derived.Lib.TrailingZeros
namespace Go.V

theorem u64w {e : Int} (h : 0 ≤ e ∧ e < 18446744073709551616) : IntKind.wrap .u64 e = e := wrap_in .u64 (by simp [IntKind.min, IntKind.max, IntKind.signed, IntKind.bits]; omega)
theorem ofInt64 {a : Nat} (ha : a < 18446744073709551616) : (BitVec.ofInt 64 (a : Int)).toNat = a := by
  rw [BitVec.ofInt_natCast, BitVec.toNat_ofNat]; exact Nat.mod_eq_of_lt (by omega)
theorem iand_nat {a b : Nat} (ha : a < 18446744073709551616) (hb : b < 18446744073709551616) : iand .u64 (a : Int) (b : Int) = ((a &&& b : Nat) : Int) := by
  have hx : a &&& b < 2 ^ 64 := Nat.and_lt_two_pow _ (by omega)
  show IntKind.u64.wrap ((BitVec.ofInt 64 (a : Int) &&& BitVec.ofInt 64 (b : Int)).toNat : Int) = _
  rw [BitVec.toNat_and, ofInt64 ha, ofInt64 hb, u64w (by omega)]
theorem ior_nat {a b : Nat} (ha : a < 18446744073709551616) (hb : b < 18446744073709551616) : ior .u64 (a : Int) (b : Int) = ((a ||| b : Nat) : Int) := by
  have hx : a ||| b < 2 ^ 64 := Nat.or_lt_two_pow (by omega) (by omega)
  show IntKind.u64.wrap ((BitVec.ofInt 64 (a : Int) ||| BitVec.ofInt 64 (b : Int)).toNat : Int) = _
  rw [BitVec.toNat_or, ofInt64 ha, ofInt64 hb, u64w (by omega)]
/-- a without the bits of b. -/
def andNot (a b : Nat) : Nat := a &&& (18446744073709551615 - b)
theorem inot_nat {a b : Nat} (ha : a < 18446744073709551616) (hb : b < 18446744073709551616) : inot .u64 (a : Int) (b : Int) = ((andNot a b : Nat) : Int) := by
  have hx : a &&& (18446744073709551615 - b) < 2 ^ 64 := Nat.and_lt_two_pow _ (by omega)
  show IntKind.u64.wrap ((BitVec.ofInt 64 (a : Int) &&& ~~~ BitVec.ofInt 64 (b : Int)).toNat : Int) = _
  rw [BitVec.toNat_and, BitVec.toNat_not, ofInt64 ha, ofInt64 hb]
  have e : 2 ^ 64 - 1 - b = 18446744073709551615 - b := by omega
  rw [e, u64w (by omega)]; rfl
theorem andNot_lt {a b : Nat} (_ : a < 18446744073709551616) : andNot a b < 18446744073709551616 := by
  have : a &&& (18446744073709551615 - b) < 2 ^ 64 := Nat.and_lt_two_pow _ (by omega)
  unfold andNot; omega
theorem ishl_one {k : Nat} (hk : k < 64) : ishl .u64 (1 : Int) (k : Int) = ((2 ^ k : Nat) : Int) := by
  show IntKind.u64.wrap ((1 : Int) * 2 ^ (min (k : Int).toNat 64)) = _
  have h1 : min (k : Int).toNat 64 = k := by omega
  rw [h1, Int.one_mul]
  have h2 : (2 : Nat) ^ k < 2 ^ 64 := Nat.pow_lt_pow_right (by decide) hk
  have h3 : ((2 : Int) ^ k) = ((2 ^ k : Nat) : Int) := by norm_cast
  rw [h3, u64w ⟨Int.natCast_nonneg _, Int.ofNat_lt.2 h2⟩]
theorem ishr_nat {a k : Nat} (hk : k < 64) : ishr .u64 (a : Int) (k : Int) = ((a / 2 ^ k : Nat) : Int) := by
  show (a : Int).fdiv (2 ^ (min (k : Int).toNat 64)) = _
  have h1 : min (k : Int).toNat 64 = k := by omega
  have h3 : ((2 : Int) ^ k) = ((2 ^ k : Nat) : Int) := by norm_cast
  rw [h1, h3, Int.fdiv_eq_ediv_of_nonneg _ (Int.natCast_nonneg _)]
  norm_cast
theorem two_pow_lt {k : Nat} (hk : k < 64) : 2 ^ k < 18446744073709551616 := by
  have h2 : (2 : Nat) ^ k < 2 ^ 64 := Nat.pow_lt_pow_right (by decide) hk
  omega

/-- Is bit k on? -/
theorem bit_test {a k : Nat} (ha : a < 18446744073709551616) (hk : k < 64) : decide (iand .u64 (ishr .u64 (a : Int) (k : Int)) (1 : Int) = (1 : Int)) = a.testBit k := by
  have hd : a / 2 ^ k < 18446744073709551616 := Nat.lt_of_le_of_lt (Nat.div_le_self _ _) ha
  have e := iand_nat (b := 1) hd (by omega)
  rw [ishr_nat hk]
  have e1 : ((1 : Nat) : Int) = (1 : Int) := rfl
  rw [e1] at e
  rw [e, Nat.and_one_is_mod, Nat.testBit_eq_decide_div_mod_eq]
  rw [decide_eq_decide]
  constructor <;> intro h <;> omega
theorem or_bit {a k j : Nat} : (a ||| 2 ^ k).testBit j = (a.testBit j || decide (k = j)) := by rw [Nat.testBit_or, Nat.testBit_two_pow]
theorem andNot_bit {a k j : Nat} (ha : a < 18446744073709551616) (hk : k < 64) : (andNot a (2 ^ k)).testBit j = (a.testBit j && !decide (k = j)) := by
  unfold andNot
  have hp := two_pow_lt hk
  have e : 18446744073709551615 - 2 ^ k = 2 ^ 64 - (2 ^ k + 1) := by omega
  rw [Nat.testBit_and, e, Nat.testBit_two_pow_sub_succ (by omega), Nat.testBit_two_pow]
  by_cases hj : j < 64
  · simp [hj]
  · have : a.testBit j = false := Nat.testBit_lt_two_pow (Nat.lt_of_lt_of_le ha (by have : (2 : Nat) ^ 64 ≤ 2 ^ j := Nat.pow_le_pow_right (by decide) (by omega); omega))
    simp [this]

/-- The lowest bit that is on. -/
theorem ctz_spec {w : Nat} (h0 : w ≠ 0) (h : w < 18446744073709551616) : Lib.ctz 64 w < 64 ∧ w.testBit (Lib.ctz 64 w) = true ∧ (∀ j, j < Lib.ctz 64 w → w.testBit j = false) ∧ (∀ j, (w &&& (w - 1)).testBit j = (w.testBit j && decide (Lib.ctz 64 w < j))) ∧ (w &&& (w - 1)) < w := by
  obtain ⟨m, hm, hk⟩ := Lib.ctzFrom_spec 64 w (by omega) (by omega)
  have e : Lib.ctz 64 w = Lib.ctzFrom 64 w := by simp [Lib.ctz, h0]
  rw [← e] at hm hk
  generalize Lib.ctz 64 w = z at *
  have hpos : 0 < 2 ^ z := Nat.two_pow_pos z
  have tb : ∀ j, w.testBit j = if j < z + 1 then (2 ^ z).testBit j else m.testBit (j - (z + 1)) := fun j => by
    have e2 : w = 2 ^ (z + 1) * m + 2 ^ z := by rw [hm, Nat.mul_add, Nat.mul_one, Nat.pow_succ, Nat.mul_assoc]
    rw [e2]
    exact Nat.testBit_two_pow_mul_add m (by rw [Nat.pow_succ]; omega) j
  have tb' : ∀ j, (w - 1).testBit j = if j < z + 1 then (2 ^ z - 1).testBit j else m.testBit (j - (z + 1)) := fun j => by
    have e2 : w - 1 = 2 ^ (z + 1) * m + (2 ^ z - 1) := by
      have : w = 2 ^ (z + 1) * m + 2 ^ z := by rw [hm, Nat.mul_add, Nat.mul_one, Nat.pow_succ, Nat.mul_assoc]
      omega
    rw [e2]
    exact Nat.testBit_two_pow_mul_add m (by rw [Nat.pow_succ]; omega) j
  refine ⟨hk, ?_, fun j hj => ?_, fun j => ?_, ?_⟩
  · rw [tb, if_pos (by omega), Nat.testBit_two_pow]; simp
  · rw [tb, if_pos (by omega), Nat.testBit_two_pow]; simp; omega
  · rw [Nat.testBit_and, tb, tb']
    by_cases hj : j < z + 1
    · rw [if_pos hj, if_pos hj, Nat.testBit_two_pow, Nat.testBit_two_pow_sub_one]
      by_cases e1 : z = j
      · subst e1; simp
      · have : ¬ z < j := by omega
        simp [e1, this]
    · rw [if_neg hj, if_neg hj]
      have : z < j := by omega
      simp [this]
  · have : w &&& (w - 1) ≤ w - 1 := Nat.and_le_right
    omega
theorem bits_lt {w j : Nat} (h : w < 18446744073709551616) (hj : 64 ≤ j) : w.testBit j = false :=
  Nat.testBit_lt_two_pow (Nat.lt_of_lt_of_le h (by have : (2 : Nat) ^ 64 ≤ 2 ^ j := Nat.pow_le_pow_right (by decide) hj; omega))

/-- The look-up's place. -/
theorem tz_key {x : Nat} (h0 : x ≠ 0) (hx : x < 18446744073709551616) :
    ishr .u64 (IntKind.wrap .u64 (iand .u64 (x : Int) (IntKind.wrap .u64 (0 - (x : Int))) * 285870213051353865)) (58 : Int) = ((2 ^ Lib.ctz 64 x * 285870213051353865 % 18446744073709551616 / 288230376151711744 : Nat) : Int) := by
  obtain ⟨hlow, _⟩ := Lib.lowest_bit 64 x h0 hx
  have e1 : IntKind.u64.wrap (0 - (x : Int)) = ((18446744073709551616 - x : Nat) : Int) := by rw [IntKind.wrap_u64]; omega
  have hlow' : x &&& (18446744073709551616 - x) = 2 ^ Lib.ctz 64 x := hlow
  rw [e1, iand_nat hx (by omega), hlow', IntKind.wrap_u64]
  have e2 : ∀ a : Nat, (a : Int) * 285870213051353865 % 18446744073709551616 = ((a * 285870213051353865 % 18446744073709551616 : Nat) : Int) := fun a => by
    show (a : Int) * ((285870213051353865 : Nat) : Int) % ((18446744073709551616 : Nat) : Int) = _
    rw [← Int.natCast_mul, ← Int.natCast_emod]
  have e3 := ishr_nat (a := 2 ^ Lib.ctz 64 x * 285870213051353865 % 18446744073709551616) (k := 58) (by decide)
  rw [e2]
  exact e3
end Go.V
