/- Contracts. -/
import Derived.Test.YtjfohhgmapipnaaS4
import Derived.Test.YtjfohhgmapipnaaVcBits
namespace Go.Proofs.Ytjfohhgmapipnaa
open Go.V
/-! ### Repeat, of one zero byte -/
theorem math_bits_Mul.one {n : Nat} {H : Hp} {K : Int → Int → Hp → Prop} (hn : n < 4294967296) (hK : K 0 (n : Nat) H) : math_bits_Mul.C 1 (n : Nat) H K := by
  apply math_bits_Mul.of
  apply math_bits_Mul64.of
  refine ⟨by decide, by decide, by decide, by decide, by decide, ?_⟩
  have e1 : ishr .u64 (1 : Int) (32 : Int) = 0 := by decide
  have e2 : iand .u64 (1 : Int) (4294967295 : Int) = 1 := by decide
  have e3 : iand .u64 ((n : Nat) : Int) (4294967295 : Int) = ((n : Nat) : Int) := by
    have := iand_nat (a := n) (b := 4294967295) (by omega) (by decide)
    rw [show ((4294967295 : Nat) : Int) = (4294967295 : Int) from rfl] at this
    rw [this]
    have : n &&& 4294967295 = n := by
      have h2 : (4294967295 : Nat) = 2 ^ 32 - 1 := rfl
      rw [h2, Nat.and_two_pow_sub_one_eq_mod]
      exact Nat.mod_eq_of_lt (by omega)
    rw [this]
  have e4 : ishr .u64 ((n : Nat) : Int) (32 : Int) = 0 := by
    have := ishr_nat (a := n) (k := 32) (by decide)
    rw [show ((32 : Nat) : Int) = (32 : Int) from rfl] at this
    rw [this, Nat.div_eq_of_lt (by show n < 2 ^ 32; omega)]; rfl
  have w : ∀ m : Nat, m < 4294967296 → IntKind.wrap .u64 ((m : Nat) : Int) = ((m : Nat) : Int) := fun m hm => u64w (by omega)
  have w0 : IntKind.wrap .u64 (0 : Int) = 0 := by decide
  have s0 : ishr .u64 (0 : Int) (32 : Int) = 0 := by decide
  have i0 : iand .u64 (0 : Int) (4294967295 : Int) = 0 := by decide
  simp only [e1, e2, e3, e4, Int.zero_mul, Int.mul_zero, Int.one_mul, w0, s0, i0, Int.add_zero, w n hn]
  exact hK
theorem strings_Repeat.c {n : Nat} {H : Hp} {K : ByteArray → Hp → Prop} (hn : n ≤ 64) (hK : ∀ H', Le H H' → K (mkB (List.replicate n 0)) H') : strings_Repeat.C (bs [0]) (n : Nat) H K := by
  apply strings_Repeat.of
  refine bcd (fun h => ?_) (fun h0 => bcd (fun h => ?_) (fun h1 => bcd (fun h => absurd h (by omega)) fun _ => ?_))
  · have : n = 0 := by omega
    subst this; exact hK H (Le.refl _)
  · have : n = 1 := by omega
    subst this; exact hK H (Le.refl _)
  · unfold strings_Repeat.k1
    rw [show IntKind.wrap .u64 (((bs [0]).size : Nat) : Int) = 1 by decide, show IntKind.wrap .u64 ((n : Nat) : Int) = (n : Nat) from u64w (by omega)]
    refine math_bits_Mul.one (by omega) ?_
    refine bcd (fun h => absurd h (by decide)) (fun _ => bcd (fun h => absurd h (by omega)) fun _ => ?_)
    unfold strings_Repeat.k2
    refine bcd (fun h => absurd h (by decide)) fun _ => idxN 0 rfl (by decide) ?_
    have hz : (((bs [0]).data.toList.getD 0 0).toNat : Int) = 0 := rfl
    simp only [hz]
    refine bcd (fun h => absurd h (by decide)) fun _ => bcd (fun h => absurd h (by decide)) fun _ => bcd (fun h => absurd h (by decide)) fun _ => bcd (fun h => absurd h (by decide)) fun _ => ?_
    unfold strings_Repeat.k3
    rw [show decide ((0 : Int) = 9) = false by decide]
    refine bcF ?_
    unfold strings_Repeat.k8
    have wn : IntKind.wrap .i64 ((n : Nat) : Int) = (n : Nat) := wrap_in .i64 (by simp [IntKind.min, IntKind.max, IntKind.signed, IntKind.bits]; omega)
    simp only [wn]
    refine bcd (fun h => absurd h (by omega)) fun _ => ?_
    unfold strings_Repeat.k9
    rw [wn]
    intro b hb
    refine strings_Builder_Grow.c (Bd.new (A := H) hb (by simp [upd])) (Le.upd hb) (by omega) fun p1 c1 H2 hB hA2 _ hc _ => ?_
    refine strings_Builder_WriteString.c hB hA2 (.inl rfl) (by rw [show (bs [0]).size = 1 from rfl]; decide) fun p2 c2 k2 H3 hB3 hA3 _ _ hk => ?_
    have hc2 : n ≤ c2 := by
      rcases hk with ⟨_, _, h⟩ | ⟨_, h⟩
      · omega
      · rw [show (bs [0]).size = 1 from rfl, List.length_nil] at h; omega
    refine ⟨fun H' => Le H H' ∧ ∃ p c' k m, Bd H H' b p c' k (List.replicate m 0) ∧ 1 ≤ m ∧ m ≤ n ∧ n ≤ c', fun H' => match rd H' b 1 with | some (.slice _ l _) => n - l | _ => 0, ⟨hA3, p2, c2, k2, 1, hB3, by omega, by omega, hc2⟩, ?_⟩
    rintro H4 ⟨hA4, p4, c4, k4, m, hB4, g1, g2, g3⟩
    have hr := hB4.r1
    rw [List.length_replicate] at hr
    refine strings_Builder_Len.c hB4 ?_
    rw [List.length_replicate]
    refine bcd (fun h => ?_) (fun h => ?_)
    · refine strings_Builder_Len.c hB4 ?_
      rw [List.length_replicate]
      refine chk (by omega) (strings_Builder_Len.c hB4 ?_)
      rw [List.length_replicate]
      refine strings_Builder_String.c hB4 hA4 (by rw [List.length_replicate]; omega) fun H5 hB5 hA5 _ => ?_
      obtain ⟨t, ht, ht1, ht2⟩ : ∃ t : Nat, min (min (((n : Nat) : Int) - (m : Nat)) (m : Nat)) (n : Nat) = (t : Nat) ∧ 1 ≤ t ∧ t ≤ m ∧ m + t ≤ n := ⟨min (min (n - m) m) n, by omega, by omega, by omega, by omega⟩
      have hsz : (⟨⟨List.replicate m 0⟩⟩ : ByteArray).size = m := by show (mkB (List.replicate m 0)).size = m; rw [sv_size, List.length_replicate]
      refine bnd01 t ht (by rw [hsz]; omega) ?_
      have e1 : (⟨⟨List.replicate m 0⟩⟩ : ByteArray).extract 0 t = mkB (List.replicate t 0) := L_inj (by
        rw [L_extract, L_mk, List.drop_zero]
        show (List.replicate m (0 : UInt8)).take t = _
        rw [List.take_replicate, Nat.min_eq_left (by omega)])
      rw [e1]
      have hts : (mkB (List.replicate t 0)).size = t := by rw [sv_size, List.length_replicate]
      refine strings_Builder_WriteString.c hB5 hA5 (.inr (by rw [List.length_replicate, hts]; omega)) (by rw [List.length_replicate, hts]; omega) fun p6 c6 k6 H6 hB6 hA6 _ _ hk6 => ?_
      have hk6' : c6 = c4 := by
        rcases hk6 with ⟨_, _, h⟩ | ⟨_, h⟩
        · exact h
        · rw [List.length_replicate, hts] at h; omega
      have e2 : List.replicate m (0 : UInt8) ++ (mkB (List.replicate t 0)).data.toList = List.replicate (m + t) 0 := List.replicate_append_replicate
      rw [e2] at hB6
      refine ⟨⟨hA6, p6, c6, k6, m + t, hB6, by omega, by omega, by omega⟩, ?_⟩
      have hr6 := hB6.r1
      rw [List.length_replicate] at hr6
      simp only [hr, hr6]
      omega
    · have : m = n := by omega
      subst this
      exact strings_Builder_String.c hB4 hA4 (by rw [List.length_replicate]; omega) fun H5 _ hA5 _ => hK H5 hA5
end Go.Proofs.Ytjfohhgmapipnaa
