/- For every two patches, every path and numbers PatchTells returns true, and what came in reads as it did: no condition. -/
import Derived.Test.YtganockeifkecaaGreatZ5
import Derived.Test.YtganockeifkecaaGreatRows
namespace Go.Proofs.YtganockeifkecaaGreat
open Go.V
open Go.ChangeShapes Go.WideShapes Go.ChangeAt Go.RowKit
theorem iand16 (x : Int) : iand .i64 x (65535 : Int) = x % 65536 := by
  have e : ((65535 : Nat) : Int) = (65535 : Int) := rfl
  have hn : ∀ n : Nat, n &&& 65535 = n % 65536 := fun n => Nat.and_two_pow_sub_one_eq_mod n 16
  have h1 : (BitVec.ofInt 64 (65535 : Int)).toNat = 65535 := by decide
  have h2 : ((BitVec.ofInt 64 x).toNat : Int) = x % 18446744073709551616 := by
    rw [BitVec.toNat_ofInt]
    have : (0 : Int) ≤ x % ((2 ^ 64 : Nat) : Int) := Int.emod_nonneg _ (by decide)
    rw [Int.toNat_of_nonneg this]; rfl
  have h3 : ((BitVec.ofInt 64 x).toNat % 65536 : Nat) = ((x % 65536).toNat) := by omega
  show IntKind.i64.wrap ((BitVec.ofInt 64 x &&& BitVec.ofInt 64 (65535 : Int)).toNat : Int) = _
  rw [BitVec.toNat_and, h1, hn, h3]
  rw [wrap_in .i64 (by simp [IntKind.min, IntKind.max, IntKind.signed, IntKind.bits]; omega)]
  omega
theorem tells_id {w s : Int} : ((idN w s : Nat) : Int) = ior .u32 (ishl .u32 (IntKind.wrap .u32 (iand .i64 w (65535 : Int))) (16 : Int)) (IntKind.wrap .u32 (iand .i64 s (65535 : Int))) := by
  rw [iand16, iand16, u32w (by omega), u32w (by omega)]
  have e1 : w % 65536 = (((w % 65536).toNat : Nat) : Int) := by omega
  have e2 : s % 65536 = (((s % 65536).toNat : Nat) : Int) := by omega
  rw [e1, e2, ishl32 (by omega), ior32 (by omega) (by omega), id_or (by omega)]
  rfl
theorem dec_refl (b : Bool) {A B : Prop} (h : A) : bc (decide (b = b)) A B := by rw [decide_eq_true rfl]; exact h
theorem dec_refl' {α : Type} {x : α} [Decidable (x = x)] {A B : Prop} (h : A) : bc (decide (x = x)) A B := by rw [decide_eq_true rfl]; exact h
theorem patchTells_law {cs0 cs1 : List Value} {x0 x1 : PtX} {path : ByteArray} {who seq : Int} {H : Hp} (s0 : ptE.rep H cs0 x0) (s1 : ptE.rep H cs1 x1) (s2 : path.size ≤ 9223372036854775807) (w3 : (Lit.int .i64 who).wf = true) (w4 : (Lit.int .i64 seq).wf = true) :
    CallH prog centolaw12_PatchTells.num [.agg ⟨cs0⟩, .agg ⟨cs1⟩, .string path, .int .i64 who, .int .i64 seq] H fun v H' => liftB v fun r => r = true ∧ Le H H' := by
  clear w3 w4
  obtain ⟨dp, dl, dc, mp, ml, mc, qp, ql, qc, hp, hl, hc, rfl, h, hbd⟩ := ptE_rep s0
  obtain ⟨dp2, dl2, dc2, mp2, ml2, mc2, qp2, ql2, qc2, hp2, hl2, hc2, rfl, g, gbd⟩ := ptE_rep s1
  clear s0 s1
  revert h g
  generalize toPt x0 = x
  generalize x0.1 = id
  generalize toPt x1 = y
  generalize x1.1 = id2
  intro h g
  show centolaw12_PatchTells.C id dp dl dc mp ml mc qp ql qc hp hl hc id2 dp2 dl2 dc2 mp2 ml2 mc2 qp2 ql2 qc2 hp2 hl2 hc2 path who seq H fun r H' => r = true ∧ Le H H'
  apply centolaw12_PatchTells.of
  intro b hb b2 hb2
  have l1 := Le.upd (c := [.int .u32 id, .slice dp dl dc, .slice mp ml mc, .slice qp ql qc, .slice hp hl hc]) hb
  have l2 := Le.upd (c := [.int .u32 id2, .slice dp2 dl2 dc2, .slice mp2 ml2 mc2, .slice qp2 ql2 qc2, .slice hp2 hl2 hc2]) hb2
  have d := (D5.new (H := H) (b := b) (id := id) (dp := dp) (dl := dl) (dc := dc) (mp := mp) (ml := ml) (mc := mc) (qp := qp) (ql := ql) (qc := qc) (hp := hp) (hl := hl) (hc := hc)).le l2
  have e := D5.new (H := upd H b [.int .u32 id, .slice dp dl dc, .slice mp ml mc, .slice qp ql qc, .slice hp hl hc]) (b := b2) (id := id2) (dp := dp2) (dl := dl2) (dc := dc2) (mp := mp2) (ml := ml2) (mc := mc2) (qp := qp2) (ql := ql2) (qc := qc2) (hp := hp2) (hl := hl2) (hc := hc2)
  have l0 := l1.trans l2
  revert l0 d e
  generalize upd (upd H b [.int .u32 id, .slice dp dl dc, .slice mp ml mc, .slice qp ql qc, .slice hp hl hc]) b2 [.int .u32 id2, .slice dp2 dl2 dc2, .slice mp2 ml2 mc2, .slice qp2 ql2 qc2, .slice hp2 hl2 hc2] = H1
  intro d e l0
  clear l1 l2 hb hb2
  refine centolaw12_known.c fun H2 l2 => bcn (fun h => by cases h) fun _ => ?_
  have d := d.le l2
  have e := e.le l2
  have l0 := l0.trans l2
  refine ldI_i d.1 (ldL_i d.2.1 (ldL_i d.2.2.1 (ldL_i d.2.2.2.1 (ldL_i d.2.2.2.2 ?_))))
  refine centolaw12_few.c (h.up l0) hbd fun H3 l3 => bcn (fun _ => ⟨rfl, l0.trans l3⟩) fun f1 => ?_
  have d := d.le l3
  have e := e.le l3
  have l0 := l0.trans l3
  refine ldI_i e.1 (ldL_i e.2.1 (ldL_i e.2.2.1 (ldL_i e.2.2.2.1 (ldL_i e.2.2.2.2 ?_))))
  refine centolaw12_few.c (g.up l0) gbd fun H4 l4 => bcn (fun _ => ⟨rfl, l0.trans l4⟩) fun f2 => ?_
  have d := d.le l4
  have e := e.le l4
  have l0 := l0.trans l4
  have sm := fewB_sm f1
  have sm2 := fewB_sm f2
  refine bcd (fun _ => ⟨rfl, l0⟩) fun hps => ?_
  unfold centolaw12_PatchTells.k1
  refine ldI_i d.1 (ldL_i d.2.1 (ldL_i d.2.2.1 (ldL_i d.2.2.2.1 (ldL_i d.2.2.2.2 ?_))))
  refine ldI_i d.1 (ldL_i d.2.1 (ldL_i d.2.2.1 (ldL_i d.2.2.2.1 (ldL_i d.2.2.2.2 ?_))))
  refine patch_Is.c (h.up l0) sm fun H5 l5 => ?_
  have d := d.le l5
  have e := e.le l5
  have l0 := l0.trans l5
  refine ⟨d.1, d.2.1, d.2.2.1, d.2.2.2.1, d.2.2.2.2, centoref12_Is.c (h.up l0) sm fun H6 l6 => dec_refl _ ?_⟩
  have d := d.le l6
  have e := e.le l6
  have l0 := l0.trans l6
  refine ldI_i d.1 (ldL_i d.2.1 (ldL_i d.2.2.1 (ldL_i d.2.2.2.1 (ldL_i d.2.2.2.2 ?_))))
  refine ldI_i d.1 (ldL_i d.2.1 (ldL_i d.2.2.1 (ldL_i d.2.2.2.1 (ldL_i d.2.2.2.2 ?_))))
  refine patch_Needs.c (h.up l0) sm fun pn ln cn H7 l7 hN _ hln => ?_
  have d := d.le l7
  have e := e.le l7
  have l0 := l0.trans l7
  refine ⟨d.1, d.2.1, d.2.2.1, d.2.2.2.1, d.2.2.2.2, centoref12_Needs.c (h.up l0) sm fun pm lm cm H8 l8 hM _ => ?_⟩
  have d := d.le l8
  have e := e.le l8
  have l0 := l0.trans l8
  refine centoref12_SameIDs.c (hN.le l8) hM hln (dec_refl' ?_)
  refine ldI_i d.1 (ldL_i d.2.1 (ldL_i d.2.2.1 (ldL_i d.2.2.2.1 (ldL_i d.2.2.2.2 ?_))))
  refine ldI_i d.1 (ldL_i d.2.1 (ldL_i d.2.2.1 (ldL_i d.2.2.2.1 (ldL_i d.2.2.2.2 ?_))))
  refine patch_Paths.c (h.up l0) sm fun pp lp cp H9 l9 hP _ hlp => ?_
  have d := d.le l9
  have e := e.le l9
  have l0 := l0.trans l9
  refine ⟨d.1, d.2.1, d.2.2.1, d.2.2.2.1, d.2.2.2.2, centoref12_Paths.c (h.up l0) sm fun pq lq cq H10 l10 hQ => ?_⟩
  have d := d.le l10
  have e := e.le l10
  have l0 := l0.trans l10
  refine centolaw12_texts.c (hP.le l10) hQ hlp (dec_refl' ?_)
  refine ldI_i d.1 (ldL_i d.2.1 (ldL_i d.2.2.1 (ldL_i d.2.2.2.1 (ldL_i d.2.2.2.2 ?_))))
  refine ldI_i d.1 (ldL_i d.2.1 (ldL_i d.2.2.1 (ldL_i d.2.2.2.1 (ldL_i d.2.2.2.2 ?_))))
  refine patch_Lines.c (h.up l0) sm fun H11 l11 => ?_
  have d := d.le l11
  have e := e.le l11
  have l0 := l0.trans l11
  refine ⟨d.1, d.2.1, d.2.2.1, d.2.2.2.1, d.2.2.2.2, centoref12_Lines.c (h.up l0) sm fun H12 l12 => dec_refl' ?_⟩
  have d := d.le l12
  have e := e.le l12
  have l0 := l0.trans l12
  refine ldI_i d.1 (ldL_i d.2.1 (ldL_i d.2.2.1 (ldL_i d.2.2.2.1 (ldL_i d.2.2.2.2 ?_))))
  refine ldI_i e.1 (ldL_i e.2.1 (ldL_i e.2.2.1 (ldL_i e.2.2.2.1 (ldL_i e.2.2.2.2 ?_))))
  refine ldI_i d.1 (ldL_i d.2.1 (ldL_i d.2.2.1 (ldL_i d.2.2.2.1 (ldL_i d.2.2.2.2 ?_))))
  refine ldI_i e.1 (ldL_i e.2.1 (ldL_i e.2.2.1 (ldL_i e.2.2.2.1 (ldL_i e.2.2.2.2 ?_))))
  refine patch_Same.c (h.up l0) (g.up l0) sm fun H13 l13 => ?_
  have d := d.le l13
  have e := e.le l13
  have l0 := l0.trans l13
  refine ⟨e.1, e.2.1, e.2.2.1, e.2.2.2.1, e.2.2.2.2, d.1, d.2.1, d.2.2.1, d.2.2.2.1, d.2.2.2.2, centoref12_Same.c (h.up l0) (g.up l0) sm fun H14 l14 => dec_refl _ ?_⟩
  have l0 := l0.trans l14
  have ep : path = mkB (L path) := (mk_L path).symm
  have hz : (L path).length ≤ 40 := by rw [← L_size]; omega
  rw [ep]
  refine patch_IsPath.c (by omega) (centoref12_IsPath.c (by omega) (dec_refl _ ?_))
  have fin : (fun (r : Bool) (H' : Hp) => r = true ∧ Le H H') (decide (((idN who seq : Nat) : Int) = ior .u32 (ishl .u32 (IntKind.wrap .u32 (iand .i64 who (65535 : Int))) (16 : Int)) (IntKind.wrap .u32 (iand .i64 seq (65535 : Int))))) H14 := ⟨decide_eq_true tells_id, l0⟩
  have z16 : (0 : Int) ≤ 16 := by decide
  exact ⟨patch_ID.c ⟨⟨z16, fin⟩, ⟨z16, fin⟩⟩, ⟨z16, patch_ID.c fin, patch_ID.c fin⟩, patch_ID.c ⟨z16, fin⟩, z16, patch_ID.c fin⟩

theorem patchTells_own : ownKnob Tryz.prog.godebug = none := by kernel_rfl
theorem patchTells_laid : laidOutB Tryz.prog = true := by kernel_rfl
set_option maxRecDepth 100000 in
theorem patchTells_lifted (os : Os) (started : os.Started) (H : Type) (enc : TypeId × Value → H) :
    ReturnsInHanded {} Tryz.checked os 3 .any (Rows.patchTellsSpec.pre6 enc Tryz.prog Tryz.f3 Rows.patchTellsRow.domain false) (Rows.patchTellsSpec.post enc Tryz.prog Tryz.f3 false true false false) := by
  refine returnsInHanded_of_change (C := Tryz.checked) patchTells_own started (by kernel_rfl) Tryz.func3
    (ChangeSpec.witness6 (enc := enc) (C := Tryz.checked) false ⟨#[], #[.agg #[.int .u32 (0 : Int), .slice none 0 0, .slice none 0 0, .slice none 0 0, .slice none 0 0], .agg #[.int .u32 (0 : Int), .slice none 0 0, .slice none 0 0, .slice none 0 0, .slice none 0 0], .string .empty, .int .i64 0, .int .i64 0], []⟩ 8 (by kernel_rfl) (by kernel_rfl) (by kernel_rfl) (by kernel_rfl)) ?_
  intro W base args ds gs before hval0 hW hcnd _
  have hval : ∀ (j : Nat) t v, Tryz.f3.params[j]? = some t → args[j]? = some v → Value.okWide Tryz.prog W .any base t v := hval0
  have hW' := hW
  obtain ⟨p, q, hA0, hV, rfl, hfz, hnd⟩ := hW
  have hA : DataW.TrodAll enc Tryz.prog W 0 (fun _ => true) true Tryz.f3.params.toList args.toList ds p := hA0
  rw [Tryz.params3] at hA hval
  obtain ⟨v0, v1, v2, v3, v4, d0, d1, d2, d3, d4, p0, p1, p2, p3, p4, rfl, rfl, rfl, h0, h1, h2, h3, h4⟩ := trodAll_five hA
  obtain ⟨cs0, x0, rfl, s0⟩ := openSt Tryz.underlying27 (opens_st Tryz.underlying27 (by kernel_rfl) (opensF_cons rfl (opens_int Tryz.underlying22 (by kernel_rfl)) rfl (opensF_cons rfl (opens_sl (by decide) Tryz.underlying23 (by kernel_rfl) (opens_int Tryz.underlying22 (by kernel_rfl))) rfl (opensF_cons rfl (opens_sl (by decide) Tryz.underlying24 (by kernel_rfl) (opens_str Tryz.underlying9 (by kernel_rfl))) rfl (opensF_cons rfl (opens_sl (by decide) Tryz.underlying24 (by kernel_rfl) (opens_str Tryz.underlying9 (by kernel_rfl))) rfl (opensF_one rfl (opens_sl (by decide) Tryz.underlying25 (by kernel_rfl) (opens_st Tryz.underlying47 (by kernel_rfl) (opensF_cons rfl (opens_str Tryz.underlying9 (by kernel_rfl)) rfl (opensF_cons rfl (opens_sl (by decide) Tryz.underlying24 (by kernel_rfl) (opens_str Tryz.underlying9 (by kernel_rfl))) rfl (opensF_cons rfl (opens_sl (by decide) Tryz.underlying44 (by kernel_rfl) (opens_st Tryz.underlying43 (by kernel_rfl) (opensF_cons rfl (opens_st Tryz.underlying41 (by kernel_rfl) (opensF_cons rfl (opens_int Tryz.underlying22 (by kernel_rfl)) rfl (opensF_one rfl (opens_int Tryz.underlying3 (by kernel_rfl))))) rfl (opensF_one rfl (opens_st Tryz.underlying41 (by kernel_rfl) (opensF_cons rfl (opens_int Tryz.underlying22 (by kernel_rfl)) rfl (opensF_one rfl (opens_int Tryz.underlying3 (by kernel_rfl))))))))) rfl (opensF_one rfl (opens_sl (by decide) Tryz.underlying45 (by kernel_rfl) (opens_st Tryz.underlying41 (by kernel_rfl) (opensF_cons rfl (opens_int Tryz.underlying22 (by kernel_rfl)) rfl (opensF_one rfl (opens_int Tryz.underlying3 (by kernel_rfl)))))))))))))))))) (hval 0 27 v0 rfl rfl) h0 (fun x hx => by simp [hx]) hfz
  obtain ⟨cs1, x1, rfl, s1⟩ := openSt Tryz.underlying27 (opens_st Tryz.underlying27 (by kernel_rfl) (opensF_cons rfl (opens_int Tryz.underlying22 (by kernel_rfl)) rfl (opensF_cons rfl (opens_sl (by decide) Tryz.underlying23 (by kernel_rfl) (opens_int Tryz.underlying22 (by kernel_rfl))) rfl (opensF_cons rfl (opens_sl (by decide) Tryz.underlying24 (by kernel_rfl) (opens_str Tryz.underlying9 (by kernel_rfl))) rfl (opensF_cons rfl (opens_sl (by decide) Tryz.underlying24 (by kernel_rfl) (opens_str Tryz.underlying9 (by kernel_rfl))) rfl (opensF_one rfl (opens_sl (by decide) Tryz.underlying25 (by kernel_rfl) (opens_st Tryz.underlying47 (by kernel_rfl) (opensF_cons rfl (opens_str Tryz.underlying9 (by kernel_rfl)) rfl (opensF_cons rfl (opens_sl (by decide) Tryz.underlying24 (by kernel_rfl) (opens_str Tryz.underlying9 (by kernel_rfl))) rfl (opensF_cons rfl (opens_sl (by decide) Tryz.underlying44 (by kernel_rfl) (opens_st Tryz.underlying43 (by kernel_rfl) (opensF_cons rfl (opens_st Tryz.underlying41 (by kernel_rfl) (opensF_cons rfl (opens_int Tryz.underlying22 (by kernel_rfl)) rfl (opensF_one rfl (opens_int Tryz.underlying3 (by kernel_rfl))))) rfl (opensF_one rfl (opens_st Tryz.underlying41 (by kernel_rfl) (opensF_cons rfl (opens_int Tryz.underlying22 (by kernel_rfl)) rfl (opensF_one rfl (opens_int Tryz.underlying3 (by kernel_rfl))))))))) rfl (opensF_one rfl (opens_sl (by decide) Tryz.underlying45 (by kernel_rfl) (opens_st Tryz.underlying41 (by kernel_rfl) (opensF_cons rfl (opens_int Tryz.underlying22 (by kernel_rfl)) rfl (opensF_one rfl (opens_int Tryz.underlying3 (by kernel_rfl)))))))))))))))))) (hval 1 27 v1 rfl rfl) h1 (fun x hx => by simp [hx]) hfz
  obtain ⟨x2, rfl, rfl, rfl, s2⟩ := Go.ChangeMaps.open_string Tryz.underlying9 (hval 2 9 v2 rfl rfl) h2
  obtain ⟨x3, rfl, rfl, rfl, w3⟩ := open_int Tryz.underlying3 (hval 3 3 v3 rfl rfl) h3
  obtain ⟨x4, rfl, rfl, rfl, w4⟩ := open_int Tryz.underlying3 (hval 4 3 v4 rfl rfl) h4
  refine (calls_true (patchTells_law s0 s1 s2 w3 w4) Tryz.func3 (by kernel_rfl)).mono fun e W' ⟨he, hk⟩ => ?_
  subst he
  exact ⟨_, rfl, post_true patchTells_laid hW' (by kernel_rfl) rfl rfl rfl Tryz.underlying4 hk⟩

theorem patchTells_holds : Rows.PatchTellsSaid :=
  OpenClaim.holds_of_wide 3 Tryz.f3 rfl rfl rfl rfl rfl rfl rfl ⟨rfl, rfl, rfl, rfl, rfl⟩ rfl rfl rfl rfl rfl (by kernel_rfl) Tryz.func3 (by kernel_rfl)
    (of_decide_eq_true (by kernel_rfl)) (by unfold Func.isWrapper; first | (rw [if_pos (by decide +kernel)]; kernel_rfl) | (rw [if_neg (by decide +kernel)]; exact ⟨rfl, rfl⟩))
    (fun os started H enc _ => patchTells_lifted os started H enc)

end Go.Proofs.YtganockeifkecaaGreat
