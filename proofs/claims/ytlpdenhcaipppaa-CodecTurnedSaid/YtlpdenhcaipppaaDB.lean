/- For every patch and numbers CodecTurned returns true, and what came in reads as it did: no condition. -/
import Derived.Test.YtlpdenhcaipppaaZ4
import Derived.Test.YtlpdenhcaipppaaRows
namespace Go.Proofs.Ytlpdenhcaipppaa
open Go.V
open Go.ChangeShapes Go.WideShapes Go.ChangeAt Go.RowKit
theorem putE_dec (x : Pt) : decide (putE x = 0) = isB x := by
  cases h : isB x with
  | true => rw [putE_yes h]; rfl
  | false => rw [putE_no h]; rfl
theorem ptB_pos (x : Pt) : 0 < (ptB x).length := by
  unfold ptB idB
  simp only [List.length_append]
  have : 0 < (numI (x.id / 65536)).length := numB_pos _
  omega
theorem xor_ne {a b : Nat} (h : b ≠ 0) : a ^^^ b ≠ a := fun e => h (by
  have : a ^^^ (a ^^^ b) = b := by rw [← Nat.xor_assoc, Nat.xor_self, Nat.zero_xor]
  rw [e, Nat.xor_self] at this
  exact this.symm)
theorem ixor8 {a b : Nat} (ha : a < 256) (hb : b < 256) : ixor .u8 ((a : Nat) : Int) ((b : Nat) : Int) = (((UInt8.ofNat (a ^^^ b)).toNat : Nat) : Int) := by
  have hx : a ^^^ b < 2 ^ 8 := Nat.xor_lt_two_pow (by omega) (by omega)
  show IntKind.u8.wrap ((BitVec.ofInt 8 ((a : Nat) : Int) ^^^ BitVec.ofInt 8 ((b : Nat) : Int)).toNat : Int) = _
  rw [BitVec.toNat_xor, ofInt8 ha, ofInt8 hb, u8w, u8nat (by omega)]
  omega
theorem codecTurned_law {cs0 : List Value} {x0 : PtX} {at_ x : Int} {H : Hp} (s0 : ptE.rep H cs0 x0) (w1 : (Lit.int .u16 at_).wf = true) (w2 : (Lit.int .u8 x).wf = true) :
    CallH prog centolaw18_CodecTurned.num [.agg ⟨cs0⟩, .int .u16 at_, .int .u8 x] H fun v H' => liftB v fun r => r = true ∧ Le H H' := by
  have wc : 0 ≤ at_ ∧ at_ ≤ 65535 := by simpa [Lit.wf, IntKind.min, IntKind.max, IntKind.signed, IntKind.bits] using w1
  have wx : 0 ≤ x ∧ x ≤ 255 := by simpa [Lit.wf, IntKind.min, IntKind.max, IntKind.signed, IntKind.bits] using w2
  clear w1 w2
  have u := ptE_u s0
  obtain ⟨dp, dl, dc, mp, ml, mc, qp, ql, qc, hp, hl, hc, rfl, h, hbd⟩ := ptE_rep s0
  clear s0
  revert h u
  generalize toPt x0 = y
  generalize x0.1 = id
  intro u h
  show centolaw18_CodecTurned.C id dp dl dc mp ml mc qp ql qc hp hl hc at_ x H fun r H' => r = true ∧ Le H H'
  apply centolaw18_CodecTurned.of
  refine newD5 fun b H1 _ d l0 => ?_
  refine centolaw18_known.c fun H2 l2 => bcn (fun h => by cases h) fun _ => ?_
  have d := d.le l2
  have l0 := l0.trans l2
  refine d.get (centolaw18_few.c (h.up l0) hbd fun H3 l3 => bcn (fun _ => ⟨rfl, l0.trans l3⟩) fun f1 => ?_)
  have d := d.le l3
  have l0 := l0.trans l3
  have sx := fewB_sm f1
  refine bcd (fun _ => ⟨rfl, l0⟩) fun hx0 => ?_
  unfold centolaw18_CodecTurned.k1
  refine d.get (codec_Put.c (h.up l0) sx u fun H5 l5 => ?_)
  have d := d.le l5
  have l0 := l0.trans l5
  refine bcd (fun hx => ?_) fun hx => ?_
  · refine ⟨?_, l0⟩
    have : isB y = false := by rw [← putE_dec]; exact decide_eq_false hx
    rw [putB_no this]; exact decide_eq_true rfl
  have bx : isB y = true := by rw [← putE_dec]; exact decide_eq_true (Classical.not_not.1 hx)
  rw [putB_yes bx]
  have hlen := ptB_len sx
  have hpos := ptB_pos y
  refine codec_bytes fun q c H6 hq l6 lw hB => ?_
  have hk : Int.tmod at_ ((ptB y).length : Nat) = ((at_.toNat % (ptB y).length : Nat) : Int) := by
    have := Int.ofNat_tmod at_.toNat (ptB y).length
    rw [Int.toNat_of_nonneg wc.1] at this
    exact this.symm
  have hlt : at_.toNat % (ptB y).length < (ptB y).length := Nat.mod_lt _ hpos
  generalize at_.toNat % (ptB y).length = k at hk hlt
  have hr := hB k hlt
  have hxx : x = ((x.toNat : Nat) : Int) := by omega
  have hv : ixor .u8 ((((ptB y)[k]).toNat : Nat) : Int) x = (((UInt8.ofNat (((ptB y)[k]).toNat ^^^ x.toNat)).toNat : Nat) : Int) := by
    rw [hxx, ixor8 ((ptB y)[k]).toNat_lt (by omega), Int.toNat_natCast]
  have hne : (ptB y).set k (UInt8.ofNat (((ptB y)[k]).toNat ^^^ x.toNat)) ≠ ptB y := fun e => by
    have e1 := List.getElem_set_self (l := ptB y) (i := k) (a := UInt8.ofNat (((ptB y)[k]).toNat ^^^ x.toNat)) (by simpa using hlt)
    have e2 : (UInt8.ofNat (((ptB y)[k]).toNat ^^^ x.toNat)) = (ptB y)[k] := by
      rw [← e1]
      simp only [e]
    have e3 := congrArg UInt8.toNat e2
    have hb8 : ((ptB y)[k]).toNat ^^^ x.toNat < 2 ^ 8 := Nat.xor_lt_two_pow ((ptB y)[k]).toNat_lt (by omega)
    rw [UInt8.toNat_ofNat_of_lt' (show ((ptB y)[k]).toNat ^^^ x.toNat < 256 by omega)] at e3
    exact xor_ne (by omega) e3
  have hB2 := hB.set hlt (y := UInt8.ofNat (((ptB y)[k]).toNat ^^^ x.toNat))
  have lz : Le H5 (wr H6 q k (.int .u8 (((UInt8.ofNat (((ptB y)[k]).toNat ^^^ x.toNat)).toNat : Nat) : Int))) := lw _ _
  have k2 : centolaw18_CodecTurned.k2 (fun r H' => r = true ∧ Le H H') b (ptB y).length (some ⟨q, 0, none⟩) (wr H6 q k (.int .u8 (((UInt8.ofNat (((ptB y)[k]).toNat ^^^ x.toNat)).toNat : Nat) : Int))) := by
    generalize wr H6 q k (.int .u8 (((UInt8.ofNat (((ptB y)[k]).toNat ^^^ x.toNat)).toNat : Nat) : Int)) = H7 at hB2 lz
    have hl2 : (ptB y).length = ((ptB y).set k (UInt8.ofNat (((ptB y)[k]).toNat ^^^ x.toNat))).length := by rw [List.length_set]
    generalize (ptB y).set k (UInt8.ofNat (((ptB y)[k]).toNat ^^^ x.toNat)) = w at hB2 hl2 hne
    have d := d.le lz
    have l0 := l0.trans lz
    unfold centolaw18_CodecTurned.k2
    rw [hl2]
    refine hB2.bts (codec_Get.c (fun _ H8 l8 => D5.mk fun b2 H9 _ _ l9 => ?_) fun z r hz sz dp' dl' dc' mp' ml' mc' qp' ql' qc' hp' hl' hc' H8 l8 p8 _ => D5.mk fun b2 H9 _ d9 l9 => ?_)
    · exact bcd (fun _ => bcd (fun _ => (hB2.le (l8.trans l9)).bts ⟨decide_eq_true rfl, l0.trans (l8.trans l9)⟩) fun h => absurd rfl h) fun h => absurd (by decide) h
    · have l89 := l8.trans l9
      have d := d.le l89
      have l0 := l0.trans l89
      have hB2 := hB2.le l89
      obtain ⟨hz1, hz2, hz3⟩ := put_get hz
      have p9 := p8.up l9
      refine bcd (fun h => absurd rfl h) fun _ => d9.get (codec_Put.c p9 sz hz2 fun H10 l10 => ?_)
      rw [putE_yes hz1, putB_yes hz1]
      have hlz := ptB_len sz
      have hlr : (ptB z).length + r.length = (ptB y).length := by rw [hl2, hz3, List.length_append]
      refine bcd (fun _ => ⟨by rw [mkB_size, mkB_size]; omega, (hB2.le l10).bts ?_⟩) fun h => absurd rfl h
      rw [ba_app, ← hz3]
      refine bcd (fun _ => bcd (fun _ => ⟨rfl, l0.trans l10⟩) fun hr0 => ?_) fun h => absurd rfl h
      have hr1 : r = [] := eq_iff_L.1 (Classical.not_not.1 hr0)
      refine (d.le l10).get ((d9.le l10).get (centoref12_Same.c ((h.up l0).up l10) (p9.up l10) sx fun H11 l11 => ⟨?_, (l0.trans l10).trans l11⟩))
      have : ¬ y = z := fun e => by
        subst e
        rw [hr1, List.append_nil] at hz3
        exact hne hz3
      rw [decide_eq_false this]; rfl
  have sz0 : ¬ (((ptB y).length : Nat) : Int) = 0 := by omega
  refine ⟨chk (by omega) ⟨sz0, chk (by omega) ⟨sz0, idxN k hk hlt (nil ?_)⟩⟩, chk (by omega) ⟨sz0, idxN k hk hlt (nil ?_)⟩⟩
  · rw [Nat.zero_add]
    refine ldI_i hr (idxN k hk hlt (nil ?_))
    rw [Nat.zero_add, hv]
    exact st hr k2
  · rw [Nat.zero_add]
    refine ldI_i hr (chk (by omega) ⟨hr, sz0, idxN k hk hlt (nil ?_)⟩)
    rw [Nat.zero_add, hv]
    exact st hr k2

theorem codecTurned_own : ownKnob Try.prog.godebug = none := by kernel_rfl
theorem codecTurned_laid : laidOutB Try.prog = true := by kernel_rfl
set_option maxRecDepth 100000 in
theorem codecTurned_lifted (os : Os) (started : os.Started) (H : Type) (enc : TypeId × Value → H) :
    ReturnsInHanded {} Try.checked os 5 .any (Rows.codecTurnedSpec.pre6 enc Try.prog Try.f5 Rows.codecTurnedRow.domain false) (Rows.codecTurnedSpec.post enc Try.prog Try.f5 false true false false) := by
  refine returnsInHanded_of_change (C := Try.checked) codecTurned_own started (by kernel_rfl) Try.func5
    (ChangeSpec.witness6 (enc := enc) (C := Try.checked) false ⟨#[], #[.agg #[.int .u32 (0 : Int), .slice none 0 0, .slice none 0 0, .slice none 0 0, .slice none 0 0], .int .u16 0, .int .u8 0], []⟩ 8 (by kernel_rfl) (by kernel_rfl) (by kernel_rfl) (by kernel_rfl)) ?_
  intro W base args ds gs before hval0 hW hcnd _
  have hval : ∀ (j : Nat) t v, Try.f5.params[j]? = some t → args[j]? = some v → Value.okWide Try.prog W .any base t v := hval0
  have hW' := hW
  obtain ⟨p, q, hA0, hV, rfl, hfz, hnd⟩ := hW
  have hA : DataW.TrodAll enc Try.prog W 0 (fun _ => true) true Try.f5.params.toList args.toList ds p := hA0
  rw [Try.params5] at hA hval
  obtain ⟨v0, v1, v2, d0, d1, d2, p0, p1, p2, rfl, rfl, rfl, h0, h1, h2⟩ := trodAll_three hA
  obtain ⟨cs0, x0, rfl, s0⟩ := openSt Try.underlying27 (opens_st Try.underlying27 (by kernel_rfl) (opensF_cons rfl (opens_int Try.underlying22 (by kernel_rfl)) rfl (opensF_cons rfl (opens_sl (by decide) Try.underlying23 (by kernel_rfl) (opens_int Try.underlying22 (by kernel_rfl))) rfl (opensF_cons rfl (opens_sl (by decide) Try.underlying24 (by kernel_rfl) (opens_str Try.underlying9 (by kernel_rfl))) rfl (opensF_cons rfl (opens_sl (by decide) Try.underlying24 (by kernel_rfl) (opens_str Try.underlying9 (by kernel_rfl))) rfl (opensF_one rfl (opens_sl (by decide) Try.underlying25 (by kernel_rfl) (opens_st Try.underlying49 (by kernel_rfl) (opensF_cons rfl (opens_str Try.underlying9 (by kernel_rfl)) rfl (opensF_cons rfl (opens_sl (by decide) Try.underlying24 (by kernel_rfl) (opens_str Try.underlying9 (by kernel_rfl))) rfl (opensF_cons rfl (opens_sl (by decide) Try.underlying46 (by kernel_rfl) (opens_st Try.underlying85 (by kernel_rfl) (opensF_cons rfl (opens_st Try.underlying83 (by kernel_rfl) (opensF_cons rfl (opens_int Try.underlying22 (by kernel_rfl)) rfl (opensF_one rfl (opens_int Try.underlying3 (by kernel_rfl))))) rfl (opensF_one rfl (opens_st Try.underlying83 (by kernel_rfl) (opensF_cons rfl (opens_int Try.underlying22 (by kernel_rfl)) rfl (opensF_one rfl (opens_int Try.underlying3 (by kernel_rfl))))))))) rfl (opensF_one rfl (opens_sl (by decide) Try.underlying47 (by kernel_rfl) (opens_st Try.underlying83 (by kernel_rfl) (opensF_cons rfl (opens_int Try.underlying22 (by kernel_rfl)) rfl (opensF_one rfl (opens_int Try.underlying3 (by kernel_rfl)))))))))))))))))) (hval 0 27 v0 rfl rfl) h0 (fun x hx => by simp [hx]) hfz
  obtain ⟨x1, rfl, rfl, rfl, w1⟩ := open_int Try.underlying28 (hval 1 28 v1 rfl rfl) h1
  obtain ⟨x2, rfl, rfl, rfl, w2⟩ := open_int Try.underlying5 (hval 2 5 v2 rfl rfl) h2
  refine (calls_true (codecTurned_law s0 w1 w2) Try.func5 (by kernel_rfl)).mono fun e W' ⟨he, hk⟩ => ?_
  subst he
  exact ⟨_, rfl, post_true codecTurned_laid hW' (by kernel_rfl) rfl rfl rfl Try.underlying4 hk⟩

theorem codecTurned_holds : Rows.CodecTurnedSaid :=
  OpenClaim.holds_of_wide 5 Try.f5 rfl rfl rfl rfl rfl rfl rfl ⟨rfl, rfl, rfl, rfl, rfl⟩ rfl rfl rfl rfl rfl (by kernel_rfl) Try.func5 (by kernel_rfl)
    (of_decide_eq_true (by kernel_rfl)) (by unfold Func.isWrapper; first | (rw [if_pos (by decide +kernel)]; kernel_rfl) | (rw [if_neg (by decide +kernel)]; exact ⟨rfl, rfl⟩))
    (fun os started H enc _ => codecTurned_lifted os started H enc)

end Go.Proofs.Ytlpdenhcaipppaa
