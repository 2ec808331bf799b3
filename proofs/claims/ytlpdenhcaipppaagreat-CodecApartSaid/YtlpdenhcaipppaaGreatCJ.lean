/- For every two patches CodecApart returns true, and what came in reads as it did: no condition. -/
import Derived.Test.YtlpdenhcaipppaaGreatZ5
import Derived.Test.YtlpdenhcaipppaaGreatRows
namespace Go.Proofs.YtlpdenhcaipppaaGreat
open Go.V
open Go.ChangeShapes Go.WideShapes Go.ChangeAt Go.RowKit
theorem putE_dec (x : Pt) : decide (putE x = 0) = isB x := by
  cases h : isB x with
  | true => rw [putE_yes h]; rfl
  | false => rw [putE_no h]; rfl
theorem codecApart_law {cs0 cs1 : List Value} {x0 x1 : PtX} {H : Hp} (s0 : ptE.rep H cs0 x0) (s1 : ptE.rep H cs1 x1) :
    CallH prog centolaw18_CodecApart.num [.agg ⟨cs0⟩, .agg ⟨cs1⟩] H fun v H' => liftB v fun r => r = true ∧ Le H H' := by
  have u := ptE_u s0
  have u' := ptE_u s1
  obtain ⟨dp, dl, dc, mp, ml, mc, qp, ql, qc, hp, hl, hc, rfl, h, hbd⟩ := ptE_rep s0
  obtain ⟨dp2, dl2, dc2, mp2, ml2, mc2, qp2, ql2, qc2, hp2, hl2, hc2, rfl, g, gbd⟩ := ptE_rep s1
  clear s0 s1
  revert h g u u'
  generalize toPt x0 = x
  generalize x0.1 = id
  generalize toPt x1 = y
  generalize x1.1 = id2
  intro u u' h g
  show centolaw18_CodecApart.C id dp dl dc mp ml mc qp ql qc hp hl hc id2 dp2 dl2 dc2 mp2 ml2 mc2 qp2 ql2 qc2 hp2 hl2 hc2 H fun r H' => r = true ∧ Le H H'
  apply centolaw18_CodecApart.of
  refine newD5 fun b H0 _ d l0 => newD5 fun b2 H1 _ e l1 => ?_
  have d := d.le l1
  have l0 := l0.trans l1
  refine centolaw18_known.c fun H2 l2 => bcn (fun h => by cases h) fun _ => ?_
  have d := d.le l2
  have e := e.le l2
  have l0 := l0.trans l2
  refine d.get (centolaw18_few.c (h.up l0) hbd fun H3 l3 => bcn (fun _ => ⟨rfl, l0.trans l3⟩) fun f1 => ?_)
  have d := d.le l3
  have e := e.le l3
  have l0 := l0.trans l3
  refine e.get (centolaw18_few.c (g.up l0) gbd fun H4 l4 => bcn (fun _ => ⟨rfl, l0.trans l4⟩) fun f2 => ?_)
  have d := d.le l4
  have e := e.le l4
  have l0 := l0.trans l4
  have sx := fewB_sm f1
  have sy := fewB_sm f2
  unfold centolaw18_CodecApart.k1
  refine d.get (codec_Put.c (h.up l0) sx u fun H5 l5 => ?_)
  have d := d.le l5
  have e := e.le l5
  have l0 := l0.trans l5
  refine e.get (codec_Put.c (g.up l0) sy u' fun H6 l6 => ?_)
  have d := d.le l6
  have e := e.le l6
  have l0 := l0.trans l6
  have no : centolaw18_CodecApart.k2 (fun r H' => r = true ∧ Le H H') b b2 (mkB (putB x)) (putE x) (mkB (putB y)) (putE y) true H6 := by
    unfold centolaw18_CodecApart.k2
    refine bcT (d.get (centoref12_Is.c (h.up l0) sx fun H7 l7 => ?_))
    rw [putE_dec, decide_eq_true rfl]
    refine bcT ((e.le l7).get (centoref12_Is.c (g.up (l0.trans l7)) sy fun H8 l8 => ?_))
    rw [putE_dec, decide_eq_true rfl]
    exact ⟨rfl, (l0.trans l7).trans l8⟩
  refine bcd (fun _ => no) fun hx => ?_
  by_cases hy : putE y = 0
  · rw [decide_eq_false (fun h => h hy)]
    unfold centolaw18_CodecApart.k2 centolaw18_CodecApart.k3
    have bx : isB x = true := by rw [← putE_dec]; exact decide_eq_true (Classical.not_not.1 hx)
    have bY : isB y = true := by rw [← putE_dec]; exact decide_eq_true hy
    refine bcF (d.get (e.get (centoref12_Same.c (h.up l0) (g.up l0) sx fun H7 l7 => ⟨?_, l0.trans l7⟩)))
    rw [decide_eq_true_eq, putB_yes bx, putB_yes bY]
    refine decide_eq_decide.2 ⟨fun e => ptB_inj bx u bY u' (eq_iff_L.1 e), fun e => by rw [e]⟩
  · rw [decide_eq_true hy]; exact no

theorem codecApart_own : ownKnob Tryz.prog.godebug = none := by kernel_rfl
theorem codecApart_laid : laidOutB Tryz.prog = true := by kernel_rfl
set_option maxRecDepth 100000 in
theorem codecApart_lifted (os : Os) (started : os.Started) (H : Type) (enc : TypeId × Value → H) :
    ReturnsInHanded {} Tryz.checked os 3 .any (Rows.codecApartSpec.pre6 enc Tryz.prog Tryz.f3 Rows.codecApartRow.domain false) (Rows.codecApartSpec.post enc Tryz.prog Tryz.f3 false true false false) := by
  refine returnsInHanded_of_change (C := Tryz.checked) codecApart_own started (by kernel_rfl) Tryz.func3
    (ChangeSpec.witness6 (enc := enc) (C := Tryz.checked) false ⟨#[], #[.agg #[.int .u32 (0 : Int), .slice none 0 0, .slice none 0 0, .slice none 0 0, .slice none 0 0], .agg #[.int .u32 (0 : Int), .slice none 0 0, .slice none 0 0, .slice none 0 0, .slice none 0 0]], []⟩ 8 (by kernel_rfl) (by kernel_rfl) (by kernel_rfl) (by kernel_rfl)) ?_
  intro W base args ds gs before hval0 hW hcnd _
  have hval : ∀ (j : Nat) t v, Tryz.f3.params[j]? = some t → args[j]? = some v → Value.okWide Tryz.prog W .any base t v := hval0
  have hW' := hW
  obtain ⟨p, q, hA0, hV, rfl, hfz, hnd⟩ := hW
  have hA : DataW.TrodAll enc Tryz.prog W 0 (fun _ => true) true Tryz.f3.params.toList args.toList ds p := hA0
  rw [Tryz.params3] at hA hval
  obtain ⟨v0, v1, d0, d1, p0, p1, rfl, rfl, rfl, h0, h1⟩ := trodAll_two hA
  obtain ⟨cs0, x0, rfl, s0⟩ := openSt Tryz.underlying27 (opens_st Tryz.underlying27 (by kernel_rfl) (opensF_cons rfl (opens_int Tryz.underlying22 (by kernel_rfl)) rfl (opensF_cons rfl (opens_sl (by decide) Tryz.underlying23 (by kernel_rfl) (opens_int Tryz.underlying22 (by kernel_rfl))) rfl (opensF_cons rfl (opens_sl (by decide) Tryz.underlying24 (by kernel_rfl) (opens_str Tryz.underlying9 (by kernel_rfl))) rfl (opensF_cons rfl (opens_sl (by decide) Tryz.underlying24 (by kernel_rfl) (opens_str Tryz.underlying9 (by kernel_rfl))) rfl (opensF_one rfl (opens_sl (by decide) Tryz.underlying25 (by kernel_rfl) (opens_st Tryz.underlying59 (by kernel_rfl) (opensF_cons rfl (opens_str Tryz.underlying9 (by kernel_rfl)) rfl (opensF_cons rfl (opens_sl (by decide) Tryz.underlying24 (by kernel_rfl) (opens_str Tryz.underlying9 (by kernel_rfl))) rfl (opensF_cons rfl (opens_sl (by decide) Tryz.underlying56 (by kernel_rfl) (opens_st Tryz.underlying87 (by kernel_rfl) (opensF_cons rfl (opens_st Tryz.underlying85 (by kernel_rfl) (opensF_cons rfl (opens_int Tryz.underlying22 (by kernel_rfl)) rfl (opensF_one rfl (opens_int Tryz.underlying3 (by kernel_rfl))))) rfl (opensF_one rfl (opens_st Tryz.underlying85 (by kernel_rfl) (opensF_cons rfl (opens_int Tryz.underlying22 (by kernel_rfl)) rfl (opensF_one rfl (opens_int Tryz.underlying3 (by kernel_rfl))))))))) rfl (opensF_one rfl (opens_sl (by decide) Tryz.underlying57 (by kernel_rfl) (opens_st Tryz.underlying85 (by kernel_rfl) (opensF_cons rfl (opens_int Tryz.underlying22 (by kernel_rfl)) rfl (opensF_one rfl (opens_int Tryz.underlying3 (by kernel_rfl)))))))))))))))))) (hval 0 27 v0 rfl rfl) h0 (fun x hx => by simp [hx]) hfz
  obtain ⟨cs1, x1, rfl, s1⟩ := openSt Tryz.underlying27 (opens_st Tryz.underlying27 (by kernel_rfl) (opensF_cons rfl (opens_int Tryz.underlying22 (by kernel_rfl)) rfl (opensF_cons rfl (opens_sl (by decide) Tryz.underlying23 (by kernel_rfl) (opens_int Tryz.underlying22 (by kernel_rfl))) rfl (opensF_cons rfl (opens_sl (by decide) Tryz.underlying24 (by kernel_rfl) (opens_str Tryz.underlying9 (by kernel_rfl))) rfl (opensF_cons rfl (opens_sl (by decide) Tryz.underlying24 (by kernel_rfl) (opens_str Tryz.underlying9 (by kernel_rfl))) rfl (opensF_one rfl (opens_sl (by decide) Tryz.underlying25 (by kernel_rfl) (opens_st Tryz.underlying59 (by kernel_rfl) (opensF_cons rfl (opens_str Tryz.underlying9 (by kernel_rfl)) rfl (opensF_cons rfl (opens_sl (by decide) Tryz.underlying24 (by kernel_rfl) (opens_str Tryz.underlying9 (by kernel_rfl))) rfl (opensF_cons rfl (opens_sl (by decide) Tryz.underlying56 (by kernel_rfl) (opens_st Tryz.underlying87 (by kernel_rfl) (opensF_cons rfl (opens_st Tryz.underlying85 (by kernel_rfl) (opensF_cons rfl (opens_int Tryz.underlying22 (by kernel_rfl)) rfl (opensF_one rfl (opens_int Tryz.underlying3 (by kernel_rfl))))) rfl (opensF_one rfl (opens_st Tryz.underlying85 (by kernel_rfl) (opensF_cons rfl (opens_int Tryz.underlying22 (by kernel_rfl)) rfl (opensF_one rfl (opens_int Tryz.underlying3 (by kernel_rfl))))))))) rfl (opensF_one rfl (opens_sl (by decide) Tryz.underlying57 (by kernel_rfl) (opens_st Tryz.underlying85 (by kernel_rfl) (opensF_cons rfl (opens_int Tryz.underlying22 (by kernel_rfl)) rfl (opensF_one rfl (opens_int Tryz.underlying3 (by kernel_rfl)))))))))))))))))) (hval 1 27 v1 rfl rfl) h1 (fun x hx => by simp [hx]) hfz
  refine (calls_true (codecApart_law s0 s1) Tryz.func3 (by kernel_rfl)).mono fun e W' ⟨he, hk⟩ => ?_
  subst he
  exact ⟨_, rfl, post_true codecApart_laid hW' (by kernel_rfl) rfl rfl rfl Tryz.underlying4 hk⟩

theorem codecApart_holds : Rows.CodecApartSaid :=
  OpenClaim.holds_of_wide 3 Tryz.f3 rfl rfl rfl rfl rfl rfl rfl ⟨rfl, rfl, rfl, rfl, rfl⟩ rfl rfl rfl rfl rfl (by kernel_rfl) Tryz.func3 (by kernel_rfl)
    (of_decide_eq_true (by kernel_rfl)) (by unfold Func.isWrapper; first | (rw [if_pos (by decide +kernel)]; kernel_rfl) | (rw [if_neg (by decide +kernel)]; exact ⟨rfl, rfl⟩))
    (fun os started H enc _ => codecApart_lifted os started H enc)

end Go.Proofs.YtlpdenhcaipppaaGreat
