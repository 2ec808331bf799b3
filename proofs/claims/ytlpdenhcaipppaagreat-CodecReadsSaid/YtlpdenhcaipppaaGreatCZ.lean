/- For all bytes CodecReads returns true, and what came in reads as it did: no condition. -/
import Derived.Test.YtlpdenhcaipppaaGreatZ6
import Derived.Test.YtlpdenhcaipppaaGreatRows
namespace Go.Proofs.YtlpdenhcaipppaaGreat
open Go.V
open Go.ChangeShapes Go.WideShapes Go.ChangeAt Go.RowKit
theorem codecReads_law {s : ByteArray} {H : Hp} (s0 : s.size ≤ 9223372036854775807) :
    CallH prog centolaw18_CodecReads.num [.string s] H fun v H' => liftB v fun r => r = true ∧ Le H H' := by
  clear s0
  obtain ⟨m, rfl⟩ : ∃ m, s = mkB m := ⟨L s, (mk_L s).symm⟩
  show centolaw18_CodecReads.C (mkB m) H fun r H' => r = true ∧ Le H H'
  apply centolaw18_CodecReads.of
  refine centolaw18_known.c fun H2 l2 => bcn (fun h => by cases h) fun _ => ?_
  refine bcd (fun _ => ⟨rfl, l2⟩) fun _ => ?_
  refine codec_Digit.r (centoref18_Digit.r ?_)
  refine codec_Get.r fun id dp dl dc mp ml mc qp ql qc hp hl hc H3 l3 p3 sm => D5.mk fun b H4 _ d l4 => ?_
  have l34 := l3.trans l4
  have p3 := p3.up l4
  refine centoref18_Get.r fun id2 dp2 dl2 dc2 mp2 ml2 mc2 qp2 ql2 qc2 hp2 hl2 hc2 H5 l5 p5 => D5.mk fun b2 H6 _ e l6 => ?_
  have l56 := l5.trans l6
  have p5 := p5.up l6
  have p3 := p3.up l56
  have d := d.le l56
  refine codec_Lists.r fun P c H7 l7 hL hs => centoref18_Lists.r fun P' c' H8 l8 hL' => ?_
  have l78 := l7.trans l8
  have hL := hL.le l8
  have p3 := p3.up l78
  have p5 := p5.up l78
  have d := d.le l78
  have e := e.le l78
  have lz := ((l2.trans l34).trans l56).trans l78
  refine bcd (fun h => absurd rfl h) fun _ => bcd (fun h => absurd rfl h) fun _ => bcd (fun h => absurd rfl h) fun _ => ?_
  have g1 : decide ((if gO m = true then (0 : Int) else 26) = 0) = gO m := by cases gO m <;> rfl
  have g2 : decide ((if lO m = true then (0 : Int) else 26) = 0) = lO m := by cases lO m <;> rfl
  rw [g1]
  refine bcd (fun h => absurd rfl h) fun _ => bcd (fun h => absurd rfl h) fun _ => ?_
  refine d.get (e.get (centoref12_Same.c p3 p5 sm fun H9 l9 => ?_))
  rw [decide_eq_true rfl]
  refine bcF ?_
  rw [g2]
  refine bcd (fun h => absurd rfl h) fun _ => bcd (fun h => absurd rfl h) fun _ => ?_
  unfold centolaw18_CodecReads.k1
  have hL := hL.le l9
  have hL' := hL'.le l9
  have lz := lz.trans l9
  refine ⟨fun t Hx => ∃ i : Nat, t = (i : Nat) ∧ i ≤ (lX m).length ∧ Le H9 Hx, fun t _ => (((lX m).length : Int) - t).toNat, ⟨0, rfl, Nat.zero_le _, Le.refl _⟩, ?_⟩
  rintro t Hx ⟨i, rfl, gi, lx⟩
  refine bcd (fun hlt => ?_) fun _ => ?_
  · have hi : i < (lX m).length := by omega
    have hbig : (lX m).length ≤ 60 := by
      unfold lX
      cases h : listsC m with
      | none => exact Nat.zero_le _
      | some ys =>
        unfold listsC at h
        cases hp : pRow getC 60 m with
        | none => rw [hp] at h; cases h
        | some c =>
          obtain ⟨zs, r⟩ := c
          rw [hp] at h
          have := ((rt_row rt_get (by decide)).rd _ _ _ hp).1.1
          cases r with
          | nil =>
            simp only [Option.some.injEq] at h
            subst h; exact this
          | cons a r => cases h
    refine rsP (hL.le lx) rfl hi fun dp dl dc mp ml mc qp ql qc hp hl hc hx _ => rsP (hL'.le lx) rfl hi fun dp2 dl2 dc2 mp2 ml2 mc2 qp2 ql2 qc2 hp2 hl2 hc2 hy _ => centoref12_Same.c hx hy (hs _ (List.getElem_mem hi)) fun H8 l8 => ?_
    rw [decide_eq_true rfl]
    exact bcF (chk (by omega) ⟨⟨i + 1, by omega, by omega, lx.trans l8⟩, by first | omega | (dsimp only; omega)⟩)
  · have lf := lz.trans lx
    cases gO m <;> cases lO m
    · exact bcd (fun h => absurd h (by decide)) fun _ => bcd (fun _ => bcd (fun h => absurd h (by decide)) fun _ => ⟨rfl, lf⟩) fun h => absurd rfl h
    · exact bcd (fun h => absurd h (by decide)) fun _ => bcd (fun _ => bcd (fun _ => ⟨rfl, lf⟩) fun h => absurd rfl h) fun h => absurd rfl h
    · exact bcd (fun _ => bcd (fun h => absurd h (by decide)) fun _ => ⟨rfl, lf⟩) fun h => absurd rfl h
    · exact bcd (fun _ => bcd (fun _ => ⟨rfl, lf⟩) fun h => absurd rfl h) fun h => absurd rfl h

theorem codecReads_own : ownKnob Tryz.prog.godebug = none := by kernel_rfl
theorem codecReads_laid : laidOutB Tryz.prog = true := by kernel_rfl
set_option maxRecDepth 100000 in
theorem codecReads_lifted (os : Os) (started : os.Started) (H : Type) (enc : TypeId × Value → H) :
    ReturnsInHanded {} Tryz.checked os 5 .any (Rows.codecReadsSpec.pre6 enc Tryz.prog Tryz.f5 Rows.codecReadsRow.domain false) (Rows.codecReadsSpec.post enc Tryz.prog Tryz.f5 false true false false) := by
  refine returnsInHanded_of_change (C := Tryz.checked) codecReads_own started (by kernel_rfl) Tryz.func5
    (ChangeSpec.witness6 (enc := enc) (C := Tryz.checked) false ⟨#[], #[.string .empty], []⟩ 8 (by kernel_rfl) (by kernel_rfl) (by kernel_rfl) (by kernel_rfl)) ?_
  intro W base args ds gs before hval0 hW hcnd _
  have hval : ∀ (j : Nat) t v, Tryz.f5.params[j]? = some t → args[j]? = some v → Value.okWide Tryz.prog W .any base t v := hval0
  have hW' := hW
  obtain ⟨p, q, hA0, hV, rfl, hfz, hnd⟩ := hW
  have hA : DataW.TrodAll enc Tryz.prog W 0 (fun _ => true) true Tryz.f5.params.toList args.toList ds p := hA0
  rw [Tryz.params5] at hA hval
  obtain ⟨v0, d0, rfl, rfl, h0⟩ := trodAll_one hA
  obtain ⟨x0, rfl, rfl, rfl, s0⟩ := Go.ChangeMaps.open_string Tryz.underlying9 (hval 0 9 v0 rfl rfl) h0
  refine (calls_true (codecReads_law s0) Tryz.func5 (by kernel_rfl)).mono fun e W' ⟨he, hk⟩ => ?_
  subst he
  exact ⟨_, rfl, post_true codecReads_laid hW' (by kernel_rfl) rfl rfl rfl Tryz.underlying4 hk⟩

theorem codecReads_holds : Rows.CodecReadsSaid :=
  OpenClaim.holds_of_wide 5 Tryz.f5 rfl rfl rfl rfl rfl rfl rfl ⟨rfl, rfl, rfl, rfl, rfl⟩ rfl rfl rfl rfl rfl (by kernel_rfl) Tryz.func5 (by kernel_rfl)
    (of_decide_eq_true (by kernel_rfl)) (by unfold Func.isWrapper; first | (rw [if_pos (by decide +kernel)]; kernel_rfl) | (rw [if_neg (by decide +kernel)]; exact ⟨rfl, rfl⟩))
    (fun os started H enc _ => codecReads_lifted os started H enc)

end Go.Proofs.YtlpdenhcaipppaaGreat
