/- For every number and text CodecNums returns true, and what came in reads as it did: no condition. -/
import Derived.Test.YtlpdenhcaipppaaZ4
import Derived.Test.YtlpdenhcaipppaaRows
namespace Go.Proofs.Ytlpdenhcaipppaa
open Go.V
open Go.ChangeShapes Go.WideShapes Go.ChangeAt Go.RowKit
theorem digit_no : ∀ (l : BL) (k m : Nat), (∀ x ∈ l, 128 ≤ x.toNat) → 0 < k + l.length → digit k m (l ++ [0]) = none
  | [], k, m, _, hk => by
    rw [List.nil_append, digit]
    by_cases h5 : 5 ≤ k
    · rw [if_pos h5]
    · rw [if_neg h5, if_neg (by decide), if_pos (.inl ⟨rfl, by simpa using hk⟩)]
  | x :: l, k, m, hl, _ => by
    rw [List.cons_append, digit]
    by_cases h5 : 5 ≤ k
    · rw [if_pos h5]
    · rw [if_neg h5, if_pos (hl x (by simp))]
      exact digit_no l (k + 1) _ (fun y hy => hl y (by simp [hy])) (by omega)
theorem numB_end : ∀ (j n : Nat), n < 128 ^ (j + 1) → ∃ a x, numB n = a ++ [x] ∧ (∀ y ∈ a, 128 ≤ y.toNat) ∧ x.toNat < 128
  | 0, n, h => ⟨[], UInt8.ofNat n, by rw [numB_lo (by omega)]; rfl, by simp, by rw [UInt8.toNat_ofNat_of_lt' (show n < 256 by omega)]; omega⟩
  | j + 1, n, h => by
    by_cases h1 : n ≤ 127
    · exact ⟨[], UInt8.ofNat n, by rw [numB_lo h1]; rfl, by simp, by rw [UInt8.toNat_ofNat_of_lt' (show n < 256 by omega)]; omega⟩
    · obtain ⟨a, x, e, h2, h3⟩ := numB_end j (n / 128) (Nat.div_lt_of_lt_mul (by rw [Nat.pow_succ, Nat.mul_comm] at h; exact h))
      refine ⟨UInt8.ofNat (n % 128 + 128) :: a, x, by rw [numB_hi h1, e]; rfl, fun y hy => ?_, h3⟩
      rcases List.mem_cons.1 hy with rfl | hy
      · rw [UInt8.toNat_ofNat_of_lt' (show n % 128 + 128 < 256 by omega)]; omega
      · exact h2 y hy
theorem inot31 {v : Int} (h : 0 ≤ v ∧ v ≤ 4294967295) : inot .u32 v (2147483648 : Int) = ((v.toNat % 2147483648 : Nat) : Int) := by
  obtain ⟨n, rfl⟩ : ∃ n : Nat, v = n := ⟨v.toNat, by omega⟩
  have w : ∀ n : Int, IntKind.wrap .u32 n = n % 4294967296 := fun n => by simp [IntKind.wrap, IntKind.bits, IntKind.signed]
  show IntKind.u32.wrap ((BitVec.ofInt 32 (n : Int) &&& ~~~ BitVec.ofInt 32 (2147483648 : Int)).toNat : Int) = _
  have e1 : (BitVec.ofInt 32 (n : Int)).toNat = n := by rw [BitVec.ofInt_natCast, BitVec.toNat_ofNat]; exact Nat.mod_eq_of_lt (by omega)
  have e2 : (~~~ BitVec.ofInt 32 (2147483648 : Int)).toNat = 2147483647 := by decide
  have e3 : n &&& 2147483647 = n % 2147483648 := Nat.and_two_pow_sub_one_eq_mod n 31
  rw [BitVec.toNat_and, e1, e2, e3, w, Int.toNat_natCast]
  omega
theorem ior128 {x : Nat} (h : x < 128) : ior .u8 ((x : Nat) : Int) (128 : Int) = ((x + 128 : Nat) : Int) := by
  show IntKind.u8.wrap ((BitVec.ofInt 8 ((x : Nat) : Int) ||| BitVec.ofInt 8 (128 : Int)).toNat : Int) = _
  have e2 : (BitVec.ofInt 8 (128 : Int)).toNat = 128 := by decide
  rw [BitVec.toNat_or, ofInt8 (by omega), e2, or128 h, u8w]
  omega
def lenN (n : Nat) : Nat := if n = 0 then 0 else (numB n).length
theorem lenN_step {n : Nat} (h : 0 < n) : lenN n = 1 + lenN (n / 128) := by
  unfold lenN
  rw [if_neg (by omega)]
  by_cases h1 : n ≤ 127
  · rw [numB_lo h1, if_pos (by omega)]; rfl
  · rw [numB_hi h1, if_neg (by omega), List.length_cons]; omega
theorem numB_lenN (n : Nat) : (numB n).length = 1 + lenN (n / 128) := by
  by_cases h : 0 < n
  · have := lenN_step h
    unfold lenN at this
    rw [if_neg (by omega)] at this
    exact this
  · have : n = 0 := by omega
    subst this
    rw [numB_lo (by omega)]; rfl
theorem codecNums_law {v : Int} {more : ByteArray} {H : Hp} (w0 : (Lit.int .u32 v).wf = true) (s1 : more.size ≤ 9223372036854775807) : centolaw18_CodecNums.C v more H fun r H' => r = true ∧ Le H H' := by
  have hv : 0 ≤ v ∧ v ≤ 4294967295 := by simpa [Lit.wf, IntKind.min, IntKind.max, IntKind.signed, IntKind.bits] using w0
  clear w0 s1
  obtain ⟨mo, rfl⟩ : ∃ m, more = mkB m := ⟨L more, (mk_L more).symm⟩
  apply centolaw18_CodecNums.of
  refine centolaw18_known.c fun H1 l1 => bcn (fun h => by cases h) fun _ => ?_
  rw [mkB_size]
  refine bcd (fun _ => ⟨rfl, l1⟩) fun hmo => ?_
  rw [inot31 hv]
  have hm : v.toNat % 2147483648 ≤ 2147483647 := by omega
  generalize v.toNat % 2147483648 = m at hm
  refine chk (by omega) (codec_Num.c fun H2 l2 => ?_)
  rw [numC_nat hm]
  have h5 := numB_len5 hm
  have hpos := numB_pos m
  refine ⟨by first | omega | (rw [mkB_size]; omega), ?_⟩
  rw [ba_app]
  refine codec_Digit.c (fun h => by rw [digit_num hm] at h; cases h) fun n r hn _ => ?_
  rw [digit_num hm] at hn
  simp only [Option.some.injEq, Prod.mk.injEq] at hn
  obtain ⟨rfl, rfl⟩ := hn
  have l12 := l1.trans l2
  obtain ⟨a, x, ea, ha, hx⟩ := numB_end 4 m (by omega)
  have hla : (numB m).length = a.length + 1 := by rw [ea]; simp
  refine codec_bytes fun b c H3 hb l3 lw hB => ?_
  have hk : a.length < (numB m).length := by omega
  have hgx : (numB m)[a.length] = x := by simp [ea]
  refine chk (by omega) (chk (by omega) (idxN a.length (by omega) hk (nil ?_)))
  have hr := hB a.length hk
  rw [hgx] at hr
  rw [Nat.zero_add]
  refine ldI_i hr (idxN a.length (by omega) hk (nil ?_))
  rw [Nat.zero_add, ior128 hx]
  have hy : (((UInt8.ofNat (x.toNat + 128)).toNat : Nat) : Int) = ((x.toNat + 128 : Nat) : Int) := u8nat (by omega)
  rw [← hy]
  have hB2 := hB.set hk (y := UInt8.ofNat (x.toNat + 128))
  have hset : (numB m).set a.length (UInt8.ofNat (x.toNat + 128)) = a ++ [UInt8.ofNat (x.toNat + 128)] := by rw [ea]; simp
  rw [hset] at hB2
  have lz : Le H1 (wr H3 b a.length (.int .u8 (((UInt8.ofNat (x.toNat + 128)).toNat : Nat) : Int))) := l2.trans (lw _ _)
  refine st hr ?_
  have hlen2 : (numB m).length = (a ++ [UInt8.ofNat (x.toNat + 128)]).length := by rw [hla]; simp
  rw [hlen2]
  refine hB2.bts ⟨by rw [mkB_size, show (bs [0]).size = 1 from rfl, ← hlen2]; omega, ?_⟩
  rw [show bs [0] = mkB [0] from rfl, ba_app]
  have hno : digit 0 0 ((a ++ [UInt8.ofNat (x.toNat + 128)]) ++ [0]) = none := digit_no _ _ _ (fun y hy => by
    rcases List.mem_append.1 hy with hy | hy
    · exact ha y hy
    · have hy := List.mem_singleton.1 hy
      subst hy; rw [UInt8.toNat_ofNat_of_lt' (show x.toNat + 128 < 256 by omega)]; omega) (by simp)
  refine codec_Digit.c (fun _ => ?_) fun n r hn => by rw [hno] at hn; cases hn
  have lf := l1.trans lz
  have e7 := ishr_i (a := m) (k := 7) (by omega)
  rw [show ((7 : Nat) : Int) = (7 : Int) from rfl, show (2 : Nat) ^ 7 = 128 from rfl] at e7
  rw [e7]
  generalize wr H3 b a.length (.int .u8 (((UInt8.ofNat (x.toNat + 128)).toNat : Nat) : Int)) = H4 at lf
  refine ⟨by decide, ⟨fun s k Hx => ∃ p c : Nat, s = (p : Nat) ∧ k = (c : Nat) ∧ Hx = H4 ∧ p + lenN c = (numB m).length ∧ p ≤ 10, fun _ k _ => k.toNat, ⟨1, m / 128, rfl, rfl, rfl, (numB_lenN m).symm, by omega⟩, ?_⟩⟩
  rintro s k Hx ⟨p, c, rfl, rfl, rfl, hp, hp10⟩
  refine bcd (fun hc => ?_) fun hc => ?_
  · have hs := lenN_step (n := c) (by omega)
    have e8 := ishr_i (a := c) (k := 7) (by omega)
    rw [show ((7 : Nat) : Int) = (7 : Int) from rfl, show (2 : Nat) ^ 7 = 128 from rfl] at e8
    rw [e8]
    exact chk (by omega) ⟨by decide, ⟨p + 1, c / 128, by omega, rfl, rfl, by omega, by omega⟩, by first | omega | (dsimp only; omega)⟩
  · have : c = 0 := by omega
    subst this
    have hp : p = (numB m).length := by unfold lenN at hp; rw [if_pos rfl] at hp; omega
    refine bcT (bcd (fun _ => bcd (fun _ => ?_) fun h => absurd rfl h) fun h => absurd rfl h)
    refine bcd (fun _ => bcT (codec_Num.c fun H5 l5 => ?_)) fun h => absurd (by rw [mkB_size]; omega) h
    have n0 : numB (numC (-5)) = [0] := by rw [show numC (-5) = 0 from rfl, numB_lo (by decide)]; rfl
    rw [n0]
    exact bcd (fun _ => codec_Num.c fun H6 l6 => codec_Num.c fun H7 l7 => ⟨decide_eq_true rfl, lf.trans (l5.trans (l6.trans l7))⟩) fun h => absurd rfl h

theorem codecNums_own : ownKnob Try.prog.godebug = none := by kernel_rfl
theorem codecNums_laid : laidOutB Try.prog = true := by kernel_rfl
set_option maxRecDepth 100000 in
theorem codecNums_lifted (os : Os) (started : os.Started) (H : Type) (enc : TypeId × Value → H) :
    ReturnsInHanded {} Try.checked os 4 .any (Rows.codecNumsSpec.pre6 enc Try.prog Try.f4 Rows.codecNumsRow.domain false) (Rows.codecNumsSpec.post enc Try.prog Try.f4 false true false false) := by
  refine returnsInHanded_of_change (C := Try.checked) codecNums_own started (by kernel_rfl) Try.func4
    (ChangeSpec.witness6 (enc := enc) (C := Try.checked) false ⟨#[], #[.int .u32 0, .string .empty], []⟩ 8 (by kernel_rfl) (by kernel_rfl) (by kernel_rfl) (by kernel_rfl)) ?_
  intro W base args ds gs before hval0 hW hcnd _
  have hval : ∀ (j : Nat) t v, Try.f4.params[j]? = some t → args[j]? = some v → Value.okWide Try.prog W .any base t v := hval0
  have hW' := hW
  obtain ⟨p, q, hA0, hV, rfl, hfz, hnd⟩ := hW
  have hA : DataW.TrodAll enc Try.prog W 0 (fun _ => true) true Try.f4.params.toList args.toList ds p := hA0
  rw [Try.params4] at hA hval
  obtain ⟨v0, v1, d0, d1, p0, p1, rfl, rfl, rfl, h0, h1⟩ := trodAll_two hA
  obtain ⟨x0, rfl, rfl, rfl, w0⟩ := open_int Try.underlying22 (hval 0 22 v0 rfl rfl) h0
  obtain ⟨x1, rfl, rfl, rfl, s1⟩ := Go.ChangeMaps.open_string Try.underlying9 (hval 1 9 v1 rfl rfl) h1
  refine (calls_true (codecNums_law w0 s1) Try.func4 (by kernel_rfl)).mono fun e W' ⟨he, hk⟩ => ?_
  subst he
  exact ⟨_, rfl, post_true codecNums_laid hW' (by kernel_rfl) rfl rfl rfl Try.underlying4 hk⟩

theorem codecNums_holds : Rows.CodecNumsSaid :=
  OpenClaim.holds_of_wide 4 Try.f4 rfl rfl rfl rfl rfl rfl rfl ⟨rfl, rfl, rfl, rfl, rfl⟩ rfl rfl rfl rfl rfl (by kernel_rfl) Try.func4 (by kernel_rfl)
    (of_decide_eq_true (by kernel_rfl)) (by unfold Func.isWrapper; first | (rw [if_pos (by decide +kernel)]; kernel_rfl) | (rw [if_neg (by decide +kernel)]; exact ⟨rfl, rfl⟩))
    (fun os started H enc _ => codecNums_lifted os started H enc)

end Go.Proofs.Ytlpdenhcaipppaa
