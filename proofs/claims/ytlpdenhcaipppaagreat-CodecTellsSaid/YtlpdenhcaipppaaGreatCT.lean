/- For every number, text, patch and row of patches CodecTells returns true, and what came in reads as it did: no condition. -/
import Derived.Test.YtlpdenhcaipppaaGreatZ5
import Derived.Test.YtlpdenhcaipppaaGreatRows
namespace Go.Proofs.YtlpdenhcaipppaaGreat
open Go.V
open Go.ChangeShapes Go.WideShapes Go.ChangeAt Go.RowKit
theorem codecTells_law {n : Int} {s : ByteArray} {cs2 : List Value} {x2 : PtX} {q3 : Option Addr} {l3 c3 : Nat} {x3 : List PtX} {H : Hp} (w0 : (Lit.int .i64 n).wf = true) (s1 : s.size ≤ 9223372036854775807) (s2 : ptE.rep H cs2 x2) (s3 : ptE.rows H q3 l3 c3 x3) :
    CallH prog centolaw18_CodecTells.num [.int .i64 n, .string s, .agg ⟨cs2⟩, .slice q3 l3 c3] H fun v H' => liftB v fun r => r = true ∧ Le H H' := by
  have hml : l3 ≤ 9223372036854775807 := Nat.le_trans s3.2.1 (Nat.le_trans s3.2.2.1 (by decide))
  clear w0 s1
  have u := ptE_u s2
  have hu := ptL_u s3
  have hL := ptL_rep s3
  obtain ⟨dp, dl, dc, mp, ml, mc, qp, ql, qc, hp, hl, hc, rfl, h, hbd⟩ := ptE_rep s2
  clear s2 s3
  revert h u
  generalize x3.map toPt = xs at hu hL
  generalize toPt x2 = x
  generalize x2.1 = id
  intro u h
  obtain ⟨m, rfl⟩ : ∃ m, s = mkB m := ⟨L s, (mk_L s).symm⟩
  show centolaw18_CodecTells.C n (mkB m) id dp dl dc mp ml mc qp ql qc hp hl hc q3 l3 c3 H fun r H' => r = true ∧ Le H H'
  apply centolaw18_CodecTells.of
  refine newD5 fun b H1 _ d l0 => ?_
  refine centolaw18_known.c fun H2 l2 => bcn (fun h => by cases h) fun _ => ?_
  have d := d.le l2
  have l0 := l0.trans l2
  rw [mkB_size]
  refine bcd (fun _ => ⟨rfl, l0⟩) fun hm => ?_
  refine d.get (centolaw18_few.c (h.up l0) hbd fun H3 l3 => bcn (fun _ => ⟨rfl, l0.trans l3⟩) fun f1 => ?_)
  have d := d.le l3
  have l0 := l0.trans l3
  refine centolaw18_fewAll.c (hL.le l0) hml fun H4 l4 => bcn (fun _ => ⟨rfl, l0.trans l4⟩) fun hf => ?_
  have d := d.le l4
  have l0 := l0.trans l4
  obtain ⟨f2, f3⟩ := few_all hf
  unfold centolaw18_CodecTells.k1
  refine d.get (codec_Put.c (h.up l0) (fewB_sm f1) u fun H5 l5 => ?_)
  have d := d.le l5
  have l0 := l0.trans l5
  refine codec_List.c (hL.le l0) f3 hu (by omega) fun H6 l6 => ?_
  have d := d.le l6
  have l0 := l0.trans l6
  refine centoref18_List.c (hL.le l0) f3 hu (by omega) fun H7 l7 => codec_Num.c fun H8 l8 => centoref18_Num.c fun H9 l9 => ?_
  have l79 := (l7.trans l8).trans l9
  have d := d.le l79
  have l0 := l0.trans l79
  refine bcd (fun h => absurd rfl h) fun _ => ?_
  refine codec_Text.c (s := m) (by omega) fun H10 l10 => centoref18_Text.c (s := m) (by omega) fun H11 l11 => ?_
  have d := d.le (l10.trans l11)
  have l0 := l0.trans (l10.trans l11)
  refine bcd (fun h => absurd rfl h) fun _ => ?_
  have k2 : centolaw18_CodecTells.k2 (fun r H' => r = true ∧ Le H H') b (mkB (putB x)) (putE x) H11 := by
    unfold centolaw18_CodecTells.k2
    refine d.get (centoref12_Is.c (h.up l0) (fewB_sm f1) fun H12 l12 => ?_)
    have l0 := l0.trans l12
    cases hb : isB x with
    | false =>
      rw [putE_no hb, putB_no hb]
      exact bcT (bcd (fun _ => ⟨decide_eq_true rfl, l0⟩) fun h => absurd rfl h)
    | true =>
      rw [putE_yes hb, putB_yes hb]
      exact bcF (bcd (fun _ => (d.le l12).get (centoref18_Put.c (h.up l0) f1 u fun H13 l13 => ⟨decide_eq_true rfl, l0.trans l13⟩)) fun h => absurd rfl h)
  cases hok : okAll xs with
  | false =>
    rw [if_neg (by decide), if_neg (by decide)]
    exact bcd (fun h => absurd (by decide) h) fun _ => bcd (fun h => absurd rfl h) fun _ => bcd (fun _ => bcd (fun h => absurd rfl h) fun _ => k2) fun h => absurd (by decide) h
  | true =>
    rw [if_pos rfl, if_pos rfl]
    exact bcd (fun h => absurd (by decide) h) fun _ => bcd (fun h => absurd rfl h) fun _ => bcd (fun h => absurd rfl h) fun _ => k2

theorem codecTells_own : ownKnob Tryz.prog.godebug = none := by kernel_rfl
theorem codecTells_laid : laidOutB Tryz.prog = true := by kernel_rfl
set_option maxRecDepth 100000 in
theorem codecTells_lifted (os : Os) (started : os.Started) (H : Type) (enc : TypeId × Value → H) :
    ReturnsInHanded {} Tryz.checked os 4 .any (Rows.codecTellsSpec.pre6 enc Tryz.prog Tryz.f4 Rows.codecTellsRow.domain false) (Rows.codecTellsSpec.post enc Tryz.prog Tryz.f4 false true false false) := by
  refine returnsInHanded_of_change (C := Tryz.checked) codecTells_own started (by kernel_rfl) Tryz.func4
    (ChangeSpec.witness6 (enc := enc) (C := Tryz.checked) false ⟨#[], #[.int .i64 0, .string .empty, .agg #[.int .u32 (0 : Int), .slice none 0 0, .slice none 0 0, .slice none 0 0, .slice none 0 0], .slice Option.none 0 0], []⟩ 8 (by kernel_rfl) (by kernel_rfl) (by kernel_rfl) (by kernel_rfl)) ?_
  intro W base args ds gs before hval0 hW hcnd _
  have hval : ∀ (j : Nat) t v, Tryz.f4.params[j]? = some t → args[j]? = some v → Value.okWide Tryz.prog W .any base t v := hval0
  have hW' := hW
  obtain ⟨p, q, hA0, hV, rfl, hfz, hnd⟩ := hW
  have hA : DataW.TrodAll enc Tryz.prog W 0 (fun _ => true) true Tryz.f4.params.toList args.toList ds p := hA0
  rw [Tryz.params4] at hA hval
  obtain ⟨v0, v1, v2, v3, d0, d1, d2, d3, p0, p1, p2, p3, rfl, rfl, rfl, h0, h1, h2, h3⟩ := trodAll_four hA
  obtain ⟨x0, rfl, rfl, rfl, w0⟩ := open_int Tryz.underlying3 (hval 0 3 v0 rfl rfl) h0
  obtain ⟨x1, rfl, rfl, rfl, s1⟩ := Go.ChangeMaps.open_string Tryz.underlying9 (hval 1 9 v1 rfl rfl) h1
  obtain ⟨cs2, x2, rfl, s2⟩ := openSt Tryz.underlying27 (opens_st Tryz.underlying27 (by kernel_rfl) (opensF_cons rfl (opens_int Tryz.underlying22 (by kernel_rfl)) rfl (opensF_cons rfl (opens_sl (by decide) Tryz.underlying23 (by kernel_rfl) (opens_int Tryz.underlying22 (by kernel_rfl))) rfl (opensF_cons rfl (opens_sl (by decide) Tryz.underlying24 (by kernel_rfl) (opens_str Tryz.underlying9 (by kernel_rfl))) rfl (opensF_cons rfl (opens_sl (by decide) Tryz.underlying24 (by kernel_rfl) (opens_str Tryz.underlying9 (by kernel_rfl))) rfl (opensF_one rfl (opens_sl (by decide) Tryz.underlying25 (by kernel_rfl) (opens_st Tryz.underlying59 (by kernel_rfl) (opensF_cons rfl (opens_str Tryz.underlying9 (by kernel_rfl)) rfl (opensF_cons rfl (opens_sl (by decide) Tryz.underlying24 (by kernel_rfl) (opens_str Tryz.underlying9 (by kernel_rfl))) rfl (opensF_cons rfl (opens_sl (by decide) Tryz.underlying56 (by kernel_rfl) (opens_st Tryz.underlying87 (by kernel_rfl) (opensF_cons rfl (opens_st Tryz.underlying85 (by kernel_rfl) (opensF_cons rfl (opens_int Tryz.underlying22 (by kernel_rfl)) rfl (opensF_one rfl (opens_int Tryz.underlying3 (by kernel_rfl))))) rfl (opensF_one rfl (opens_st Tryz.underlying85 (by kernel_rfl) (opensF_cons rfl (opens_int Tryz.underlying22 (by kernel_rfl)) rfl (opensF_one rfl (opens_int Tryz.underlying3 (by kernel_rfl))))))))) rfl (opensF_one rfl (opens_sl (by decide) Tryz.underlying57 (by kernel_rfl) (opens_st Tryz.underlying85 (by kernel_rfl) (opensF_cons rfl (opens_int Tryz.underlying22 (by kernel_rfl)) rfl (opensF_one rfl (opens_int Tryz.underlying3 (by kernel_rfl)))))))))))))))))) (hval 2 27 v2 rfl rfl) h2 (fun x hx => by simp [hx]) hfz
  obtain ⟨q3, l3, c3, x3, rfl, s3⟩ := openSl (by decide) Tryz.underlying34 (opens_st Tryz.underlying27 (by kernel_rfl) (opensF_cons rfl (opens_int Tryz.underlying22 (by kernel_rfl)) rfl (opensF_cons rfl (opens_sl (by decide) Tryz.underlying23 (by kernel_rfl) (opens_int Tryz.underlying22 (by kernel_rfl))) rfl (opensF_cons rfl (opens_sl (by decide) Tryz.underlying24 (by kernel_rfl) (opens_str Tryz.underlying9 (by kernel_rfl))) rfl (opensF_cons rfl (opens_sl (by decide) Tryz.underlying24 (by kernel_rfl) (opens_str Tryz.underlying9 (by kernel_rfl))) rfl (opensF_one rfl (opens_sl (by decide) Tryz.underlying25 (by kernel_rfl) (opens_st Tryz.underlying59 (by kernel_rfl) (opensF_cons rfl (opens_str Tryz.underlying9 (by kernel_rfl)) rfl (opensF_cons rfl (opens_sl (by decide) Tryz.underlying24 (by kernel_rfl) (opens_str Tryz.underlying9 (by kernel_rfl))) rfl (opensF_cons rfl (opens_sl (by decide) Tryz.underlying56 (by kernel_rfl) (opens_st Tryz.underlying87 (by kernel_rfl) (opensF_cons rfl (opens_st Tryz.underlying85 (by kernel_rfl) (opensF_cons rfl (opens_int Tryz.underlying22 (by kernel_rfl)) rfl (opensF_one rfl (opens_int Tryz.underlying3 (by kernel_rfl))))) rfl (opensF_one rfl (opens_st Tryz.underlying85 (by kernel_rfl) (opensF_cons rfl (opens_int Tryz.underlying22 (by kernel_rfl)) rfl (opensF_one rfl (opens_int Tryz.underlying3 (by kernel_rfl))))))))) rfl (opensF_one rfl (opens_sl (by decide) Tryz.underlying57 (by kernel_rfl) (opens_st Tryz.underlying85 (by kernel_rfl) (opensF_cons rfl (opens_int Tryz.underlying22 (by kernel_rfl)) rfl (opensF_one rfl (opens_int Tryz.underlying3 (by kernel_rfl)))))))))))))))))) (hval 3 34 v3 rfl rfl) h3 (fun x hx => by simp [hx]) hfz
  refine (calls_true (codecTells_law w0 s1 s2 s3) Tryz.func4 (by kernel_rfl)).mono fun e W' ⟨he, hk⟩ => ?_
  subst he
  exact ⟨_, rfl, post_true codecTells_laid hW' (by kernel_rfl) rfl rfl rfl Tryz.underlying4 hk⟩

theorem codecTells_holds : Rows.CodecTellsSaid :=
  OpenClaim.holds_of_wide 4 Tryz.f4 rfl rfl rfl rfl rfl rfl rfl ⟨rfl, rfl, rfl, rfl, rfl⟩ rfl rfl rfl rfl rfl (by kernel_rfl) Tryz.func4 (by kernel_rfl)
    (of_decide_eq_true (by kernel_rfl)) (by unfold Func.isWrapper; first | (rw [if_pos (by decide +kernel)]; kernel_rfl) | (rw [if_neg (by decide +kernel)]; exact ⟨rfl, rfl⟩))
    (fun os started H enc _ => codecTells_lifted os started H enc)

end Go.Proofs.YtlpdenhcaipppaaGreat
