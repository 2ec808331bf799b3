/- For every patch, text and number CodecBack returns true, and what came in reads as it did: no condition. -/
import Derived.Test.YtlpdenhcaipppaaZ4
import Derived.Test.YtlpdenhcaipppaaRows
namespace Go.Proofs.Ytlpdenhcaipppaa
open Go.V
open Go.ChangeShapes Go.WideShapes Go.ChangeAt Go.RowKit
theorem putE_dec (x : Pt) : decide (putE x = 0) = isB x := by
  cases h : isB x with
  | true => rw [putE_yes h]; rfl
  | false => rw [putE_no h]; rfl
theorem ptB_pos (x : Pt) : 0 < (ptB x).length := by
  unfold ptB idB
  simp only [List.length_append]
  have : 0 < (numI (x.id / 65536)).length := numB_pos _
  omega
theorem get_cut {x : Pt} (h : isB x = true) (u : PtU x) {k : Nat} (hk : k < (ptB x).length) : getC ((ptB x).take k) = none := by
  cases e : getC ((ptB x).take k) with
  | none => rfl
  | some c =>
    obtain ⟨y, r⟩ := c
    obtain ⟨h1, u1, e1⟩ := put_get e
    have e2 : ptB x ++ [] = ptB y ++ (r ++ (ptB x).drop k) := by
      rw [← List.append_assoc, ← e1, List.take_append_drop, List.append_nil]
    have g1 := get_put h u []
    rw [e2, get_put h1 u1] at g1
    simp only [Option.some.injEq, Prod.mk.injEq] at g1
    have := congrArg List.length g1.2
    rw [List.length_append, List.length_drop] at this
    simp at this
    omega
theorem codecBack_law {cs0 : List Value} {x0 : PtX} {more : ByteArray} {cut : Int} {H : Hp} (s0 : ptE.rep H cs0 x0) (s1 : more.size ≤ 9223372036854775807) (w2 : (Lit.int .u16 cut).wf = true) :
    CallH prog centolaw18_CodecBack.num [.agg ⟨cs0⟩, .string more, .int .u16 cut] H fun v H' => liftB v fun r => r = true ∧ Le H H' := by
  have wc : 0 ≤ cut ∧ cut ≤ 65535 := by simpa [Lit.wf, IntKind.min, IntKind.max, IntKind.signed, IntKind.bits] using w2
  clear w2 s1
  have u := ptE_u s0
  obtain ⟨dp, dl, dc, mp, ml, mc, qp, ql, qc, hp, hl, hc, rfl, h, hbd⟩ := ptE_rep s0
  clear s0
  revert h u
  generalize toPt x0 = x
  generalize x0.1 = id
  intro u h
  obtain ⟨m, rfl⟩ : ∃ m, more = mkB m := ⟨L more, (mk_L more).symm⟩
  show centolaw18_CodecBack.C id dp dl dc mp ml mc qp ql qc hp hl hc (mkB m) cut H fun r H' => r = true ∧ Le H H'
  apply centolaw18_CodecBack.of
  refine newD5 fun b H1 _ d l0 => ?_
  refine centolaw18_known.c fun H2 l2 => bcn (fun h => by cases h) fun _ => ?_
  have d := d.le l2
  have l0 := l0.trans l2
  refine d.get (centolaw18_few.c (h.up l0) hbd fun H3 l3 => bcn (fun _ => ⟨rfl, l0.trans l3⟩) fun f1 => ?_)
  have d := d.le l3
  have l0 := l0.trans l3
  have sx := fewB_sm f1
  rw [mkB_size]
  refine bcd (fun _ => ⟨rfl, l0⟩) fun hm => ?_
  unfold centolaw18_CodecBack.k1
  refine d.get (codec_Put.c (h.up l0) sx u fun H5 l5 => ?_)
  have d := d.le l5
  have l0 := l0.trans l5
  refine bcd (fun hx => ?_) fun hx => ?_
  · refine ⟨?_, l0⟩
    have : isB x = false := by rw [← putE_dec]; exact decide_eq_false hx
    rw [putB_no this]; exact decide_eq_true rfl
  have bx : isB x = true := by rw [← putE_dec]; exact decide_eq_true (Classical.not_not.1 hx)
  rw [putB_yes bx]
  have hlen := ptB_len sx
  have hpos := ptB_pos x
  refine ⟨by rw [mkB_size, mkB_size]; omega, ?_⟩
  rw [ba_app]
  have hg := get_put bx u m
  refine codec_Get.c (fun h => by rw [hg] at h; cases h) fun y r hy hsm dp' dl' dc' mp' ml' mc' qp' ql' qc' hp' hl' hc' H6 l6 p6 => ?_
  rw [hg] at hy
  simp only [Option.some.injEq, Prod.mk.injEq] at hy
  obtain ⟨rfl, rfl⟩ := hy
  refine D5.mk fun b99 H7 _ d7 l7 => d7.get ?_
  have p7 := p6.up l7
  have l67 := l6.trans l7
  have d := d.le l67
  have l0 := l0.trans l67
  refine codec_Put.c p7 sx u fun H8 l8 => ?_
  rw [putB_yes bx]
  have d := d.le l8
  have d7 := d7.le l8
  have p7 := p7.up l8
  have l0 := l0.trans l8
  have hk : Int.tmod cut ((mkB (ptB x)).size : Nat) = ((cut.toNat % (ptB x).length : Nat) : Int) := by
    rw [mkB_size]
    have := Int.ofNat_tmod cut.toNat (ptB x).length
    rw [Int.toNat_of_nonneg wc.1] at this
    exact this.symm
  have hlt : cut.toNat % (ptB x).length < (ptB x).length := Nat.mod_lt _ hpos
  generalize cut.toNat % (ptB x).length = k at hk hlt
  refine chk (by omega) ⟨by rw [mkB_size]; omega, bnd01 k hk (by rw [mkB_size]; omega) ?_⟩
  rw [ext_take]
  refine codec_Get.c (s := (ptB x).take k) (fun _ H9 l9 => ?_) fun y r hy => by rw [get_cut bx u hlt] at hy; cases hy
  refine D5.mk fun b155 H10 _ _ l10 => ?_
  have l910 := l9.trans l10
  refine bcd (fun _ => bcd (fun _ => ?_) fun h => absurd rfl h) fun h => absurd rfl h
  refine (d.le l910).get ((d7.le l910).get (centoref12_Same.c ((h.up l0).up l910) (p7.up l910) sx fun H11 l11 => ?_))
  rw [decide_eq_true rfl]
  refine bcT (bcd (fun _ => bcd (fun _ => bcd (fun _ => bnd01 k hk (by rw [mkB_size]; omega) ⟨?_, (l0.trans l910).trans l11⟩) fun h => absurd rfl h) fun h => absurd rfl h) fun h => absurd (putE_yes bx) h)
  rw [ext_take]
  exact decide_eq_true rfl

theorem codecBack_own : ownKnob Try.prog.godebug = none := by kernel_rfl
theorem codecBack_laid : laidOutB Try.prog = true := by kernel_rfl
set_option maxRecDepth 100000 in
theorem codecBack_lifted (os : Os) (started : os.Started) (H : Type) (enc : TypeId × Value → H) :
    ReturnsInHanded {} Try.checked os 3 .any (Rows.codecBackSpec.pre6 enc Try.prog Try.f3 Rows.codecBackRow.domain false) (Rows.codecBackSpec.post enc Try.prog Try.f3 false true false false) := by
  refine returnsInHanded_of_change (C := Try.checked) codecBack_own started (by kernel_rfl) Try.func3
    (ChangeSpec.witness6 (enc := enc) (C := Try.checked) false ⟨#[], #[.agg #[.int .u32 (0 : Int), .slice none 0 0, .slice none 0 0, .slice none 0 0, .slice none 0 0], .string .empty, .int .u16 0], []⟩ 8 (by kernel_rfl) (by kernel_rfl) (by kernel_rfl) (by kernel_rfl)) ?_
  intro W base args ds gs before hval0 hW hcnd _
  have hval : ∀ (j : Nat) t v, Try.f3.params[j]? = some t → args[j]? = some v → Value.okWide Try.prog W .any base t v := hval0
  have hW' := hW
  obtain ⟨p, q, hA0, hV, rfl, hfz, hnd⟩ := hW
  have hA : DataW.TrodAll enc Try.prog W 0 (fun _ => true) true Try.f3.params.toList args.toList ds p := hA0
  rw [Try.params3] at hA hval
  obtain ⟨v0, v1, v2, d0, d1, d2, p0, p1, p2, rfl, rfl, rfl, h0, h1, h2⟩ := trodAll_three hA
  obtain ⟨cs0, x0, rfl, s0⟩ := openSt Try.underlying27 (opens_st Try.underlying27 (by kernel_rfl) (opensF_cons rfl (opens_int Try.underlying22 (by kernel_rfl)) rfl (opensF_cons rfl (opens_sl (by decide) Try.underlying23 (by kernel_rfl) (opens_int Try.underlying22 (by kernel_rfl))) rfl (opensF_cons rfl (opens_sl (by decide) Try.underlying24 (by kernel_rfl) (opens_str Try.underlying9 (by kernel_rfl))) rfl (opensF_cons rfl (opens_sl (by decide) Try.underlying24 (by kernel_rfl) (opens_str Try.underlying9 (by kernel_rfl))) rfl (opensF_one rfl (opens_sl (by decide) Try.underlying25 (by kernel_rfl) (opens_st Try.underlying49 (by kernel_rfl) (opensF_cons rfl (opens_str Try.underlying9 (by kernel_rfl)) rfl (opensF_cons rfl (opens_sl (by decide) Try.underlying24 (by kernel_rfl) (opens_str Try.underlying9 (by kernel_rfl))) rfl (opensF_cons rfl (opens_sl (by decide) Try.underlying46 (by kernel_rfl) (opens_st Try.underlying85 (by kernel_rfl) (opensF_cons rfl (opens_st Try.underlying83 (by kernel_rfl) (opensF_cons rfl (opens_int Try.underlying22 (by kernel_rfl)) rfl (opensF_one rfl (opens_int Try.underlying3 (by kernel_rfl))))) rfl (opensF_one rfl (opens_st Try.underlying83 (by kernel_rfl) (opensF_cons rfl (opens_int Try.underlying22 (by kernel_rfl)) rfl (opensF_one rfl (opens_int Try.underlying3 (by kernel_rfl))))))))) rfl (opensF_one rfl (opens_sl (by decide) Try.underlying47 (by kernel_rfl) (opens_st Try.underlying83 (by kernel_rfl) (opensF_cons rfl (opens_int Try.underlying22 (by kernel_rfl)) rfl (opensF_one rfl (opens_int Try.underlying3 (by kernel_rfl)))))))))))))))))) (hval 0 27 v0 rfl rfl) h0 (fun x hx => by simp [hx]) hfz
  obtain ⟨x1, rfl, rfl, rfl, s1⟩ := Go.ChangeMaps.open_string Try.underlying9 (hval 1 9 v1 rfl rfl) h1
  obtain ⟨x2, rfl, rfl, rfl, w2⟩ := open_int Try.underlying28 (hval 2 28 v2 rfl rfl) h2
  refine (calls_true (codecBack_law s0 s1 w2) Try.func3 (by kernel_rfl)).mono fun e W' ⟨he, hk⟩ => ?_
  subst he
  exact ⟨_, rfl, post_true codecBack_laid hW' (by kernel_rfl) rfl rfl rfl Try.underlying4 hk⟩

theorem codecBack_holds : Rows.CodecBackSaid :=
  OpenClaim.holds_of_wide 3 Try.f3 rfl rfl rfl rfl rfl rfl rfl ⟨rfl, rfl, rfl, rfl, rfl⟩ rfl rfl rfl rfl rfl (by kernel_rfl) Try.func3 (by kernel_rfl)
    (of_decide_eq_true (by kernel_rfl)) (by unfold Func.isWrapper; first | (rw [if_pos (by decide +kernel)]; kernel_rfl) | (rw [if_neg (by decide +kernel)]; exact ⟨rfl, rfl⟩))
    (fun os started H enc _ => codecBack_lifted os started H enc)

end Go.Proofs.Ytlpdenhcaipppaa
